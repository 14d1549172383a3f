/- The library of this claim and its walks, part 17, joined out of smaller texts. No statement stands in it. -/
import Derived.Test.YtpoebpggapfooaaDoorUaM16
import Derived.Laws.Bits64
import Derived.Laws.Bits64b
/- Hexadecimal digits, as the library prints them. -/
namespace Go.Proofs.YtpoebpggapfooaaDoor
open Go Go.Proofs Go.Ua Go.Extern
set_option linter.unusedVariables false
set_option linter.unusedSimpArgs false

def hexC (n : Nat) : UInt8 := if n < 10 then UInt8.ofNat (48 + n) else UInt8.ofNat (87 + n)
def hexD (n : Nat) : List UInt8 := if h : n < 16 then [hexC n] else hexD (n / 16) ++ [hexC (n % 16)]
termination_by n
decreasing_by omega
theorem hexD_small {n : Nat} (h : n < 16) : hexD n = [hexC n] := by rw [hexD, dif_pos h]
theorem hexD_big {n : Nat} (h : ¬ n < 16) : hexD n = hexD (n / 16) ++ [hexC (n % 16)] := by rw [hexD, dif_neg h]
def DIG : List UInt8 := [48, 49, 50, 51, 52, 53, 54, 55, 56, 57, 97, 98, 99, 100, 101, 102, 103, 104, 105, 106, 107, 108, 109, 110, 111, 112, 113, 114, 115, 116, 117, 118, 119, 120, 121, 122]
theorem dig_at : ∀ n : Nat, n < 16 → DIG[n]? = some (hexC n) := by decide
def bytesI (t : List Int) : List UInt8 := t.map fun n => UInt8.ofNat n.toNat
theorem strOf_ints : ∀ {t : List Int}, (∀ n, n ∈ t → 0 ≤ n ∧ n ≤ 255) → strOf (t.map fun n => Dat.s (.int .u8 n)) = some (bytesI t)
  | [], _ => rfl
  | n :: t, h => by
    have ih := strOf_ints (t := t) fun x hx => h x (List.mem_cons_of_mem _ hx)
    have hn := h n (by simp)
    simp only [List.map_cons, strOf]
    rw [ih]
    simp only
    have e : n = ((UInt8.ofNat n.toNat).toNat : Int) := by rw [UInt8.toNat_ofNat']; omega
    rw [if_pos e]
    rfl
section
variable {F : Fam} (hF : F = Fam.real)
include hF
theorem t_dig {n : Nat} {nv : Int} (h : n < 16) (hn : nv = n) : F .atS [48, 49, 50, 51, 52, 53, 54, 55, 56, 57, 97, 98, 99, 100, 101, 102, 103, 104, 105, 106, 107, 108, 109, 110, 111, 112, 113, 114, 115, 116, 117, 118, 119, 120, 121, 122] nv = ((hexC n).toNat : Int) := t_atS hF (dig_at n h) hn
theorem t_dig2 {n : Nat} {nv : Int} (h : n < 16) (hn : nv = n) : F .hasS [48, 49, 50, 51, 52, 53, 54, 55, 56, 57, 97, 98, 99, 100, 101, 102, 103, 104, 105, 106, 107, 108, 109, 110, 111, 112, 113, 114, 115, 116, 117, 118, 119, 120, 121, 122] nv = true := t_hasS hF (i := n) (by simp; omega) hn
theorem t_and15 {u : Nat} {uv : Int} (hu : uv = u) (h : u < 18446744073709551616) : F .bits .and .u64 uv 15 = ((u % 16 : Nat) : Int) := by
  rw [hF, hu]
  have := bits_and_u64_nat u 15 h (by decide)
  have e : (u &&& 15 : Nat) = u % 16 := Nat.and_two_pow_sub_one_eq_mod u 4
  rw [e] at this
  exact this
theorem t_shr4 {u : Nat} {uv : Int} (hu : uv = u) (h : u < 18446744073709551616) : F .shr .u64 uv 4 = some ((u / 16 : Nat) : Int) := by
  rw [hF, hu]
  show (if (4 : Int) < 0 then none else some (Int.fdiv (u : Int) (2 ^ (Min.min (4 : Int).toNat IntKind.u64.bits)))) = _
  rw [if_neg (by decide)]
  have : (2 : Int) ^ (Min.min (4 : Int).toNat IntKind.u64.bits) = 16 := by decide
  rw [this, Int.fdiv_eq_ediv_of_nonneg _ (by decide)]
  rfl
end

theorem fb_state (h k u : Nat) (t : List Int) (hh : hexD h = hexD u ++ bytesI t) (hu : 16 ≤ u) (ht : ∀ n, n ∈ t → 0 ≤ n ∧ n ≤ 255) :
    hexD h = hexD (u / 16) ++ bytesI (((hexC (u % 16)).toNat : Int) :: t) ∧ ∀ n, n ∈ ((hexC (u % 16)).toNat : Int) :: t → 0 ≤ n ∧ n ≤ 255 := by
  have hlt := UInt8.toNat_lt (hexC (u % 16))
  refine ⟨?_, fun n hn => ?_⟩
  · rw [hh, hexD_big (by omega)]
    simp [bytesI]
  · rcases List.mem_cons.1 hn with rfl | hn
    · omega
    · exact ht n hn
theorem fb_end (h u : Nat) (t : List Int) (hh : hexD h = hexD u ++ bytesI t) (hu : u < 16) (ht : ∀ n, n ∈ t → 0 ≤ n ∧ n ≤ 255) :
    bytesI (((hexC u).toNat : Int) :: t) = hexD h ∧ ∀ n, n ∈ ((hexC u).toNat : Int) :: t → 0 ≤ n ∧ n ≤ 255 := by
  have hlt := UInt8.toNat_lt (hexC u)
  refine ⟨?_, fun n hn => ?_⟩
  · rw [hh, hexD_small hu]
    simp [bytesI]
  · rcases List.mem_cons.1 hn with rfl | hn
    · omega
    · exact ht n hn

set_option maxRecDepth 20000 in
set_option maxHeartbeats 4000000 in
theorem formatBits16 (h : Nat) (hlt : h < 18446744073709551616) : ESpec Tryd.prog 53 [.d (.s .sl0), .d (.s (.int .u64 h)), .d (.s (.int .i64 16)), .d (.s (.bool false)), .d (.s (.bool false))] (fun x => x = .tup [.d (.s .sl0), .d (.s (.str (hexD h)))]) := by
  obtain ⟨hv, hhv⟩ : ∃ z : Int, z = h := ⟨_, rfl⟩
  rw [← hhv]
  refine ESpec.enter Tryd.func53 (by kernel_rfl) rfl (Nat.le_of_ble_eq_true rfl) fun _ cx hnt hfr => ?_
  obtain ⟨F, hF⟩ := real_ex
  refine AK.run hF tabOK hnt ?_
  conv => arg 4; cbv
  rw [show F .ltI 16 2 = false by rw [hF]; decide +kernel]
  conv => arg 4; cbv
  rw [show F .eqI 16 10 = false by rw [hF]; decide +kernel]
  conv => arg 4; cbv
  rw [show F .ltI 36 16 = false by rw [hF]; decide +kernel]
  conv => arg 4; cbv
  refine AKp.call hF tabOK hnt isPow_spec rfl rfl rfl rfl rfl rfl rfl (by repeat' first | exact .refl _ | constructor) ?_
  rintro _ rfl
  conv => arg 4; cbv
  rw [show F .wrap .u64 16 = 16 by rw [hF]; decide +kernel]
  conv => arg 4; cbv
  refine AKp.call hF tabOK hnt TZ_spec rfl rfl rfl rfl rfl rfl rfl (by repeat' first | exact .refl _ | constructor) ?_
  rintro _ rfl
  conv => arg 4; cbv
  rw [show F .wrap .u64 16 = 16 by rw [hF]; decide +kernel]
  rw [show F .wrap .u64 4 = 4 by rw [hF]; decide +kernel]
  rw [show F .wrap .u64 (F .sub 16 1) = 15 by rw [hF]; decide +kernel]
  refine AKp.enterLoop 30 ?_
  conv => arg 7; cbv
  refine AKl.inv hF tabOK hnt hfr (fun n vs hs => ∃ (k : Nat) (uv jv : Int) (t : List Int), uv = n ∧ jv = 65 - k ∧ t.length = k ∧ k ≤ 15 ∧ n < 16 ^ (16 - k) ∧ hexD h = hexD n ++ bytesI t ∧ (∀ n, n ∈ t → 0 ≤ n ∧ n ≤ 255) ∧ vs = [(1, .d (.s (.int .u64 uv))), (13, .d (.s (.int .i64 jv)))] ∧
      hs = [(0, .cs 95 (List.replicate (65 - k) (.d (.s (.int .u8 0))) ++ t.map fun n => AV.d (.s (.int .u8 n))))]) h
    ⟨0, hv, 65, [], hhv, rfl, rfl, by omega, hlt, by simp [bytesI], by simp, rfl, rfl⟩ (by repeat (first | exact True.intro | refine ⟨⟨rfl, rfl⟩, ?_⟩)) (by repeat (first | exact True.intro | refine ⟨⟨rfl, rfl, rfl⟩, ?_⟩)) ?_
  rintro J n vs hs hJ ⟨k, uv, jv, t, huv, hjv, hkt, hk15, hn16, hhex, ht, rfl, rfl⟩
  have hk : k = 0 ∨ k = 1 ∨ k = 2 ∨ k = 3 ∨ k = 4 ∨ k = 5 ∨ k = 6 ∨ k = 7 ∨ k = 8 ∨ k = 9 ∨ k = 10 ∨ k = 11 ∨ k = 12 ∨ k = 13 ∨ k = 14 ∨ k = 15 := by omega
  have hn64 : n < 18446744073709551616 := Nat.lt_of_lt_of_le hn16 (Nat.pow_le_pow_right (by decide) (show 16 - k ≤ 16 by omega))
  rcases hk with rfl | rfl | rfl | rfl | rfl | rfl | rfl | rfl | rfl | rfl | rfl | rfl | rfl | rfl | rfl | rfl
  · obtain rfl : t = [] := List.eq_nil_of_length_eq_zero hkt
    obtain rfl : jv = 65 := by omega
    conv => arg 4; cbv
    cases hb : F .leI 16 uv
    case' true =>
      have hle := leI1 hF hb
      obtain ⟨c, hc⟩ : ∃ z, z = ((hexC (n % 16)).toNat : Int) := ⟨_, rfl⟩
      obtain ⟨g1, g2⟩ := fb_state h 0 n _ hhex (by omega) ht
      rw [← hc] at g1 g2
      conv => arg 4; cbv
      rw [show F .getS [48, 49, 50, 51, 52, 53, 54, 55, 56, 57, 97, 98, 99, 100, 101, 102, 103, 104, 105, 106, 107, 108, 109, 110, 111, 112, 113, 114, 115, 116, 117, 118, 119, 120, 121, 122] (F .bits .and .u64 uv 15) = some c by rw [hc]; exact l_getS hF (dig_at (n % 16) (Nat.mod_lt _ (by decide))) (t_and15 hF huv hn64)]
      conv => arg 4; cbv
      rw [show F .wrap .i64 (F .sub 65 1) = 64 by rw [hF]; decide +kernel, show F .inB 64 65 = some 64 by rw [hF]; decide +kernel]
      conv => arg 4; cbv
      obtain ⟨u2, hu2⟩ : ∃ z : Int, z = ((n / 16 : Nat) : Int) := ⟨_, rfl⟩
      rw [t_shr4 hF huv hn64, ← hu2]
      conv => arg 4; cbv
      exact AKp.again _ hfr (by repeat (first | exact True.intro | refine ⟨⟨rfl, rfl⟩, ?_⟩)) (by repeat (first | exact True.intro | refine ⟨⟨rfl, rfl, rfl⟩, ?_⟩)) (hJ (n / 16) _ _ (by omega) ⟨1, _, _, [c], hu2, by omega, rfl, by omega, by have : n < 16 * 16 ^ 15 := hn16; omega, g1, g2, rfl, rfl⟩)
    case' false =>
      have hgt := leI0 hF hb
      obtain ⟨c, hc⟩ : ∃ z, z = ((hexC n).toNat : Int) := ⟨_, rfl⟩
      obtain ⟨g1, g2⟩ := fb_end h n _ hhex (by omega) ht
      rw [← hc] at g1 g2
      conv => arg 4; cbv
      rw [show F .getS [48, 49, 50, 51, 52, 53, 54, 55, 56, 57, 97, 98, 99, 100, 101, 102, 103, 104, 105, 106, 107, 108, 109, 110, 111, 112, 113, 114, 115, 116, 117, 118, 119, 120, 121, 122] uv = some c by rw [hc]; exact l_getS hF (dig_at n (by omega)) huv]
      conv => arg 4; cbv
      rw [show F .wrap .i64 (F .sub 65 1) = 64 by rw [hF]; decide +kernel, show F .inB 64 65 = some 64 by rw [hF]; decide +kernel]
      conv => arg 4; cbv
      refine AKp.sliceArr hF hnt 64 rfl rfl rfl rfl rfl rfl rfl (Nat.le_of_ble_eq_true rfl) (Nat.le_of_ble_eq_true rfl) (fun b w => by kernel_rfl) rfl ?_
      conv => arg 4; cbv
      obtain ⟨D, hD⟩ : ∃ D, D = hexD h := ⟨_, rfl⟩
      rw [← hD] at g1 ⊢
      rw [show F .strD [.s (.int .u8 c)] = some D by rw [← g1, hF]; exact strOf_ints g2]
      conv => arg 4; cbv
      exact AKp.doneE tabOK hfr (by rfl) (by rfl)
  · obtain ⟨a0, rfl⟩ : ∃ a0 : Int, t = [a0] := by
      match t, hkt with
      | [a0], _ => exact ⟨a0, rfl⟩
    obtain rfl : jv = 64 := by omega
    conv => arg 4; cbv
    cases hb : F .leI 16 uv
    case' true =>
      have hle := leI1 hF hb
      obtain ⟨c, hc⟩ : ∃ z, z = ((hexC (n % 16)).toNat : Int) := ⟨_, rfl⟩
      obtain ⟨g1, g2⟩ := fb_state h 0 n _ hhex (by omega) ht
      rw [← hc] at g1 g2
      conv => arg 4; cbv
      rw [show F .getS [48, 49, 50, 51, 52, 53, 54, 55, 56, 57, 97, 98, 99, 100, 101, 102, 103, 104, 105, 106, 107, 108, 109, 110, 111, 112, 113, 114, 115, 116, 117, 118, 119, 120, 121, 122] (F .bits .and .u64 uv 15) = some c by rw [hc]; exact l_getS hF (dig_at (n % 16) (Nat.mod_lt _ (by decide))) (t_and15 hF huv hn64)]
      conv => arg 4; cbv
      rw [show F .wrap .i64 (F .sub 64 1) = 63 by rw [hF]; decide +kernel, show F .inB 63 65 = some 63 by rw [hF]; decide +kernel]
      conv => arg 4; cbv
      obtain ⟨u2, hu2⟩ : ∃ z : Int, z = ((n / 16 : Nat) : Int) := ⟨_, rfl⟩
      rw [t_shr4 hF huv hn64, ← hu2]
      conv => arg 4; cbv
      exact AKp.again _ hfr (by repeat (first | exact True.intro | refine ⟨⟨rfl, rfl⟩, ?_⟩)) (by repeat (first | exact True.intro | refine ⟨⟨rfl, rfl, rfl⟩, ?_⟩)) (hJ (n / 16) _ _ (by omega) ⟨2, _, _, [c, a0], hu2, by omega, rfl, by omega, by have : n < 16 * 16 ^ 14 := hn16; omega, g1, g2, rfl, rfl⟩)
    case' false =>
      have hgt := leI0 hF hb
      obtain ⟨c, hc⟩ : ∃ z, z = ((hexC n).toNat : Int) := ⟨_, rfl⟩
      obtain ⟨g1, g2⟩ := fb_end h n _ hhex (by omega) ht
      rw [← hc] at g1 g2
      conv => arg 4; cbv
      rw [show F .getS [48, 49, 50, 51, 52, 53, 54, 55, 56, 57, 97, 98, 99, 100, 101, 102, 103, 104, 105, 106, 107, 108, 109, 110, 111, 112, 113, 114, 115, 116, 117, 118, 119, 120, 121, 122] uv = some c by rw [hc]; exact l_getS hF (dig_at n (by omega)) huv]
      conv => arg 4; cbv
      rw [show F .wrap .i64 (F .sub 64 1) = 63 by rw [hF]; decide +kernel, show F .inB 63 65 = some 63 by rw [hF]; decide +kernel]
      conv => arg 4; cbv
      refine AKp.sliceArr hF hnt 63 rfl rfl rfl rfl rfl rfl rfl (Nat.le_of_ble_eq_true rfl) (Nat.le_of_ble_eq_true rfl) (fun b w => by kernel_rfl) rfl ?_
      conv => arg 4; cbv
      obtain ⟨D, hD⟩ : ∃ D, D = hexD h := ⟨_, rfl⟩
      rw [← hD] at g1 ⊢
      rw [show F .strD [.s (.int .u8 c), .s (.int .u8 a0)] = some D by rw [← g1, hF]; exact strOf_ints g2]
      conv => arg 4; cbv
      exact AKp.doneE tabOK hfr (by rfl) (by rfl)
  · obtain ⟨a0, a1, rfl⟩ : ∃ a0 a1 : Int, t = [a0, a1] := by
      match t, hkt with
      | [a0, a1], _ => exact ⟨a0, a1, rfl⟩
    obtain rfl : jv = 63 := by omega
    conv => arg 4; cbv
    cases hb : F .leI 16 uv
    case' true =>
      have hle := leI1 hF hb
      obtain ⟨c, hc⟩ : ∃ z, z = ((hexC (n % 16)).toNat : Int) := ⟨_, rfl⟩
      obtain ⟨g1, g2⟩ := fb_state h 0 n _ hhex (by omega) ht
      rw [← hc] at g1 g2
      conv => arg 4; cbv
      rw [show F .getS [48, 49, 50, 51, 52, 53, 54, 55, 56, 57, 97, 98, 99, 100, 101, 102, 103, 104, 105, 106, 107, 108, 109, 110, 111, 112, 113, 114, 115, 116, 117, 118, 119, 120, 121, 122] (F .bits .and .u64 uv 15) = some c by rw [hc]; exact l_getS hF (dig_at (n % 16) (Nat.mod_lt _ (by decide))) (t_and15 hF huv hn64)]
      conv => arg 4; cbv
      rw [show F .wrap .i64 (F .sub 63 1) = 62 by rw [hF]; decide +kernel, show F .inB 62 65 = some 62 by rw [hF]; decide +kernel]
      conv => arg 4; cbv
      obtain ⟨u2, hu2⟩ : ∃ z : Int, z = ((n / 16 : Nat) : Int) := ⟨_, rfl⟩
      rw [t_shr4 hF huv hn64, ← hu2]
      conv => arg 4; cbv
      exact AKp.again _ hfr (by repeat (first | exact True.intro | refine ⟨⟨rfl, rfl⟩, ?_⟩)) (by repeat (first | exact True.intro | refine ⟨⟨rfl, rfl, rfl⟩, ?_⟩)) (hJ (n / 16) _ _ (by omega) ⟨3, _, _, [c, a0, a1], hu2, by omega, rfl, by omega, by have : n < 16 * 16 ^ 13 := hn16; omega, g1, g2, rfl, rfl⟩)
    case' false =>
      have hgt := leI0 hF hb
      obtain ⟨c, hc⟩ : ∃ z, z = ((hexC n).toNat : Int) := ⟨_, rfl⟩
      obtain ⟨g1, g2⟩ := fb_end h n _ hhex (by omega) ht
      rw [← hc] at g1 g2
      conv => arg 4; cbv
      rw [show F .getS [48, 49, 50, 51, 52, 53, 54, 55, 56, 57, 97, 98, 99, 100, 101, 102, 103, 104, 105, 106, 107, 108, 109, 110, 111, 112, 113, 114, 115, 116, 117, 118, 119, 120, 121, 122] uv = some c by rw [hc]; exact l_getS hF (dig_at n (by omega)) huv]
      conv => arg 4; cbv
      rw [show F .wrap .i64 (F .sub 63 1) = 62 by rw [hF]; decide +kernel, show F .inB 62 65 = some 62 by rw [hF]; decide +kernel]
      conv => arg 4; cbv
      refine AKp.sliceArr hF hnt 62 rfl rfl rfl rfl rfl rfl rfl (Nat.le_of_ble_eq_true rfl) (Nat.le_of_ble_eq_true rfl) (fun b w => by kernel_rfl) rfl ?_
      conv => arg 4; cbv
      obtain ⟨D, hD⟩ : ∃ D, D = hexD h := ⟨_, rfl⟩
      rw [← hD] at g1 ⊢
      rw [show F .strD [.s (.int .u8 c), .s (.int .u8 a0), .s (.int .u8 a1)] = some D by rw [← g1, hF]; exact strOf_ints g2]
      conv => arg 4; cbv
      exact AKp.doneE tabOK hfr (by rfl) (by rfl)
  · obtain ⟨a0, a1, a2, rfl⟩ : ∃ a0 a1 a2 : Int, t = [a0, a1, a2] := by
      match t, hkt with
      | [a0, a1, a2], _ => exact ⟨a0, a1, a2, rfl⟩
    obtain rfl : jv = 62 := by omega
    conv => arg 4; cbv
    cases hb : F .leI 16 uv
    case' true =>
      have hle := leI1 hF hb
      obtain ⟨c, hc⟩ : ∃ z, z = ((hexC (n % 16)).toNat : Int) := ⟨_, rfl⟩
      obtain ⟨g1, g2⟩ := fb_state h 0 n _ hhex (by omega) ht
      rw [← hc] at g1 g2
      conv => arg 4; cbv
      rw [show F .getS [48, 49, 50, 51, 52, 53, 54, 55, 56, 57, 97, 98, 99, 100, 101, 102, 103, 104, 105, 106, 107, 108, 109, 110, 111, 112, 113, 114, 115, 116, 117, 118, 119, 120, 121, 122] (F .bits .and .u64 uv 15) = some c by rw [hc]; exact l_getS hF (dig_at (n % 16) (Nat.mod_lt _ (by decide))) (t_and15 hF huv hn64)]
      conv => arg 4; cbv
      rw [show F .wrap .i64 (F .sub 62 1) = 61 by rw [hF]; decide +kernel, show F .inB 61 65 = some 61 by rw [hF]; decide +kernel]
      conv => arg 4; cbv
      obtain ⟨u2, hu2⟩ : ∃ z : Int, z = ((n / 16 : Nat) : Int) := ⟨_, rfl⟩
      rw [t_shr4 hF huv hn64, ← hu2]
      conv => arg 4; cbv
      exact AKp.again _ hfr (by repeat (first | exact True.intro | refine ⟨⟨rfl, rfl⟩, ?_⟩)) (by repeat (first | exact True.intro | refine ⟨⟨rfl, rfl, rfl⟩, ?_⟩)) (hJ (n / 16) _ _ (by omega) ⟨4, _, _, [c, a0, a1, a2], hu2, by omega, rfl, by omega, by have : n < 16 * 16 ^ 12 := hn16; omega, g1, g2, rfl, rfl⟩)
    case' false =>
      have hgt := leI0 hF hb
      obtain ⟨c, hc⟩ : ∃ z, z = ((hexC n).toNat : Int) := ⟨_, rfl⟩
      obtain ⟨g1, g2⟩ := fb_end h n _ hhex (by omega) ht
      rw [← hc] at g1 g2
      conv => arg 4; cbv
      rw [show F .getS [48, 49, 50, 51, 52, 53, 54, 55, 56, 57, 97, 98, 99, 100, 101, 102, 103, 104, 105, 106, 107, 108, 109, 110, 111, 112, 113, 114, 115, 116, 117, 118, 119, 120, 121, 122] uv = some c by rw [hc]; exact l_getS hF (dig_at n (by omega)) huv]
      conv => arg 4; cbv
      rw [show F .wrap .i64 (F .sub 62 1) = 61 by rw [hF]; decide +kernel, show F .inB 61 65 = some 61 by rw [hF]; decide +kernel]
      conv => arg 4; cbv
      refine AKp.sliceArr hF hnt 61 rfl rfl rfl rfl rfl rfl rfl (Nat.le_of_ble_eq_true rfl) (Nat.le_of_ble_eq_true rfl) (fun b w => by kernel_rfl) rfl ?_
      conv => arg 4; cbv
      obtain ⟨D, hD⟩ : ∃ D, D = hexD h := ⟨_, rfl⟩
      rw [← hD] at g1 ⊢
      rw [show F .strD [.s (.int .u8 c), .s (.int .u8 a0), .s (.int .u8 a1), .s (.int .u8 a2)] = some D by rw [← g1, hF]; exact strOf_ints g2]
      conv => arg 4; cbv
      exact AKp.doneE tabOK hfr (by rfl) (by rfl)
  · obtain ⟨a0, a1, a2, a3, rfl⟩ : ∃ a0 a1 a2 a3 : Int, t = [a0, a1, a2, a3] := by
      match t, hkt with
      | [a0, a1, a2, a3], _ => exact ⟨a0, a1, a2, a3, rfl⟩
    obtain rfl : jv = 61 := by omega
    conv => arg 4; cbv
    cases hb : F .leI 16 uv
    case' true =>
      have hle := leI1 hF hb
      obtain ⟨c, hc⟩ : ∃ z, z = ((hexC (n % 16)).toNat : Int) := ⟨_, rfl⟩
      obtain ⟨g1, g2⟩ := fb_state h 0 n _ hhex (by omega) ht
      rw [← hc] at g1 g2
      conv => arg 4; cbv
      rw [show F .getS [48, 49, 50, 51, 52, 53, 54, 55, 56, 57, 97, 98, 99, 100, 101, 102, 103, 104, 105, 106, 107, 108, 109, 110, 111, 112, 113, 114, 115, 116, 117, 118, 119, 120, 121, 122] (F .bits .and .u64 uv 15) = some c by rw [hc]; exact l_getS hF (dig_at (n % 16) (Nat.mod_lt _ (by decide))) (t_and15 hF huv hn64)]
      conv => arg 4; cbv
      rw [show F .wrap .i64 (F .sub 61 1) = 60 by rw [hF]; decide +kernel, show F .inB 60 65 = some 60 by rw [hF]; decide +kernel]
      conv => arg 4; cbv
      obtain ⟨u2, hu2⟩ : ∃ z : Int, z = ((n / 16 : Nat) : Int) := ⟨_, rfl⟩
      rw [t_shr4 hF huv hn64, ← hu2]
      conv => arg 4; cbv
      exact AKp.again _ hfr (by repeat (first | exact True.intro | refine ⟨⟨rfl, rfl⟩, ?_⟩)) (by repeat (first | exact True.intro | refine ⟨⟨rfl, rfl, rfl⟩, ?_⟩)) (hJ (n / 16) _ _ (by omega) ⟨5, _, _, [c, a0, a1, a2, a3], hu2, by omega, rfl, by omega, by have : n < 16 * 16 ^ 11 := hn16; omega, g1, g2, rfl, rfl⟩)
    case' false =>
      have hgt := leI0 hF hb
      obtain ⟨c, hc⟩ : ∃ z, z = ((hexC n).toNat : Int) := ⟨_, rfl⟩
      obtain ⟨g1, g2⟩ := fb_end h n _ hhex (by omega) ht
      rw [← hc] at g1 g2
      conv => arg 4; cbv
      rw [show F .getS [48, 49, 50, 51, 52, 53, 54, 55, 56, 57, 97, 98, 99, 100, 101, 102, 103, 104, 105, 106, 107, 108, 109, 110, 111, 112, 113, 114, 115, 116, 117, 118, 119, 120, 121, 122] uv = some c by rw [hc]; exact l_getS hF (dig_at n (by omega)) huv]
      conv => arg 4; cbv
      rw [show F .wrap .i64 (F .sub 61 1) = 60 by rw [hF]; decide +kernel, show F .inB 60 65 = some 60 by rw [hF]; decide +kernel]
      conv => arg 4; cbv
      refine AKp.sliceArr hF hnt 60 rfl rfl rfl rfl rfl rfl rfl (Nat.le_of_ble_eq_true rfl) (Nat.le_of_ble_eq_true rfl) (fun b w => by kernel_rfl) rfl ?_
      conv => arg 4; cbv
      obtain ⟨D, hD⟩ : ∃ D, D = hexD h := ⟨_, rfl⟩
      rw [← hD] at g1 ⊢
      rw [show F .strD [.s (.int .u8 c), .s (.int .u8 a0), .s (.int .u8 a1), .s (.int .u8 a2), .s (.int .u8 a3)] = some D by rw [← g1, hF]; exact strOf_ints g2]
      conv => arg 4; cbv
      exact AKp.doneE tabOK hfr (by rfl) (by rfl)
  · obtain ⟨a0, a1, a2, a3, a4, rfl⟩ : ∃ a0 a1 a2 a3 a4 : Int, t = [a0, a1, a2, a3, a4] := by
      match t, hkt with
      | [a0, a1, a2, a3, a4], _ => exact ⟨a0, a1, a2, a3, a4, rfl⟩
    obtain rfl : jv = 60 := by omega
    conv => arg 4; cbv
    cases hb : F .leI 16 uv
    case' true =>
      have hle := leI1 hF hb
      obtain ⟨c, hc⟩ : ∃ z, z = ((hexC (n % 16)).toNat : Int) := ⟨_, rfl⟩
      obtain ⟨g1, g2⟩ := fb_state h 0 n _ hhex (by omega) ht
      rw [← hc] at g1 g2
      conv => arg 4; cbv
      rw [show F .getS [48, 49, 50, 51, 52, 53, 54, 55, 56, 57, 97, 98, 99, 100, 101, 102, 103, 104, 105, 106, 107, 108, 109, 110, 111, 112, 113, 114, 115, 116, 117, 118, 119, 120, 121, 122] (F .bits .and .u64 uv 15) = some c by rw [hc]; exact l_getS hF (dig_at (n % 16) (Nat.mod_lt _ (by decide))) (t_and15 hF huv hn64)]
      conv => arg 4; cbv
      rw [show F .wrap .i64 (F .sub 60 1) = 59 by rw [hF]; decide +kernel, show F .inB 59 65 = some 59 by rw [hF]; decide +kernel]
      conv => arg 4; cbv
      obtain ⟨u2, hu2⟩ : ∃ z : Int, z = ((n / 16 : Nat) : Int) := ⟨_, rfl⟩
      rw [t_shr4 hF huv hn64, ← hu2]
      conv => arg 4; cbv
      exact AKp.again _ hfr (by repeat (first | exact True.intro | refine ⟨⟨rfl, rfl⟩, ?_⟩)) (by repeat (first | exact True.intro | refine ⟨⟨rfl, rfl, rfl⟩, ?_⟩)) (hJ (n / 16) _ _ (by omega) ⟨6, _, _, [c, a0, a1, a2, a3, a4], hu2, by omega, rfl, by omega, by have : n < 16 * 16 ^ 10 := hn16; omega, g1, g2, rfl, rfl⟩)
    case' false =>
      have hgt := leI0 hF hb
      obtain ⟨c, hc⟩ : ∃ z, z = ((hexC n).toNat : Int) := ⟨_, rfl⟩
      obtain ⟨g1, g2⟩ := fb_end h n _ hhex (by omega) ht
      rw [← hc] at g1 g2
      conv => arg 4; cbv
      rw [show F .getS [48, 49, 50, 51, 52, 53, 54, 55, 56, 57, 97, 98, 99, 100, 101, 102, 103, 104, 105, 106, 107, 108, 109, 110, 111, 112, 113, 114, 115, 116, 117, 118, 119, 120, 121, 122] uv = some c by rw [hc]; exact l_getS hF (dig_at n (by omega)) huv]
      conv => arg 4; cbv
      rw [show F .wrap .i64 (F .sub 60 1) = 59 by rw [hF]; decide +kernel, show F .inB 59 65 = some 59 by rw [hF]; decide +kernel]
      conv => arg 4; cbv
      refine AKp.sliceArr hF hnt 59 rfl rfl rfl rfl rfl rfl rfl (Nat.le_of_ble_eq_true rfl) (Nat.le_of_ble_eq_true rfl) (fun b w => by kernel_rfl) rfl ?_
      conv => arg 4; cbv
      obtain ⟨D, hD⟩ : ∃ D, D = hexD h := ⟨_, rfl⟩
      rw [← hD] at g1 ⊢
      rw [show F .strD [.s (.int .u8 c), .s (.int .u8 a0), .s (.int .u8 a1), .s (.int .u8 a2), .s (.int .u8 a3), .s (.int .u8 a4)] = some D by rw [← g1, hF]; exact strOf_ints g2]
      conv => arg 4; cbv
      exact AKp.doneE tabOK hfr (by rfl) (by rfl)
  · obtain ⟨a0, a1, a2, a3, a4, a5, rfl⟩ : ∃ a0 a1 a2 a3 a4 a5 : Int, t = [a0, a1, a2, a3, a4, a5] := by
      match t, hkt with
      | [a0, a1, a2, a3, a4, a5], _ => exact ⟨a0, a1, a2, a3, a4, a5, rfl⟩
    obtain rfl : jv = 59 := by omega
    conv => arg 4; cbv
    cases hb : F .leI 16 uv
    case' true =>
      have hle := leI1 hF hb
      obtain ⟨c, hc⟩ : ∃ z, z = ((hexC (n % 16)).toNat : Int) := ⟨_, rfl⟩
      obtain ⟨g1, g2⟩ := fb_state h 0 n _ hhex (by omega) ht
      rw [← hc] at g1 g2
      conv => arg 4; cbv
      rw [show F .getS [48, 49, 50, 51, 52, 53, 54, 55, 56, 57, 97, 98, 99, 100, 101, 102, 103, 104, 105, 106, 107, 108, 109, 110, 111, 112, 113, 114, 115, 116, 117, 118, 119, 120, 121, 122] (F .bits .and .u64 uv 15) = some c by rw [hc]; exact l_getS hF (dig_at (n % 16) (Nat.mod_lt _ (by decide))) (t_and15 hF huv hn64)]
      conv => arg 4; cbv
      rw [show F .wrap .i64 (F .sub 59 1) = 58 by rw [hF]; decide +kernel, show F .inB 58 65 = some 58 by rw [hF]; decide +kernel]
      conv => arg 4; cbv
      obtain ⟨u2, hu2⟩ : ∃ z : Int, z = ((n / 16 : Nat) : Int) := ⟨_, rfl⟩
      rw [t_shr4 hF huv hn64, ← hu2]
      conv => arg 4; cbv
      exact AKp.again _ hfr (by repeat (first | exact True.intro | refine ⟨⟨rfl, rfl⟩, ?_⟩)) (by repeat (first | exact True.intro | refine ⟨⟨rfl, rfl, rfl⟩, ?_⟩)) (hJ (n / 16) _ _ (by omega) ⟨7, _, _, [c, a0, a1, a2, a3, a4, a5], hu2, by omega, rfl, by omega, by have : n < 16 * 16 ^ 9 := hn16; omega, g1, g2, rfl, rfl⟩)
    case' false =>
      have hgt := leI0 hF hb
      obtain ⟨c, hc⟩ : ∃ z, z = ((hexC n).toNat : Int) := ⟨_, rfl⟩
      obtain ⟨g1, g2⟩ := fb_end h n _ hhex (by omega) ht
      rw [← hc] at g1 g2
      conv => arg 4; cbv
      rw [show F .getS [48, 49, 50, 51, 52, 53, 54, 55, 56, 57, 97, 98, 99, 100, 101, 102, 103, 104, 105, 106, 107, 108, 109, 110, 111, 112, 113, 114, 115, 116, 117, 118, 119, 120, 121, 122] uv = some c by rw [hc]; exact l_getS hF (dig_at n (by omega)) huv]
      conv => arg 4; cbv
      rw [show F .wrap .i64 (F .sub 59 1) = 58 by rw [hF]; decide +kernel, show F .inB 58 65 = some 58 by rw [hF]; decide +kernel]
      conv => arg 4; cbv
      refine AKp.sliceArr hF hnt 58 rfl rfl rfl rfl rfl rfl rfl (Nat.le_of_ble_eq_true rfl) (Nat.le_of_ble_eq_true rfl) (fun b w => by kernel_rfl) rfl ?_
      conv => arg 4; cbv
      obtain ⟨D, hD⟩ : ∃ D, D = hexD h := ⟨_, rfl⟩
      rw [← hD] at g1 ⊢
      rw [show F .strD [.s (.int .u8 c), .s (.int .u8 a0), .s (.int .u8 a1), .s (.int .u8 a2), .s (.int .u8 a3), .s (.int .u8 a4), .s (.int .u8 a5)] = some D by rw [← g1, hF]; exact strOf_ints g2]
      conv => arg 4; cbv
      exact AKp.doneE tabOK hfr (by rfl) (by rfl)
  · obtain ⟨a0, a1, a2, a3, a4, a5, a6, rfl⟩ : ∃ a0 a1 a2 a3 a4 a5 a6 : Int, t = [a0, a1, a2, a3, a4, a5, a6] := by
      match t, hkt with
      | [a0, a1, a2, a3, a4, a5, a6], _ => exact ⟨a0, a1, a2, a3, a4, a5, a6, rfl⟩
    obtain rfl : jv = 58 := by omega
    conv => arg 4; cbv
    cases hb : F .leI 16 uv
    case' true =>
      have hle := leI1 hF hb
      obtain ⟨c, hc⟩ : ∃ z, z = ((hexC (n % 16)).toNat : Int) := ⟨_, rfl⟩
      obtain ⟨g1, g2⟩ := fb_state h 0 n _ hhex (by omega) ht
      rw [← hc] at g1 g2
      conv => arg 4; cbv
      rw [show F .getS [48, 49, 50, 51, 52, 53, 54, 55, 56, 57, 97, 98, 99, 100, 101, 102, 103, 104, 105, 106, 107, 108, 109, 110, 111, 112, 113, 114, 115, 116, 117, 118, 119, 120, 121, 122] (F .bits .and .u64 uv 15) = some c by rw [hc]; exact l_getS hF (dig_at (n % 16) (Nat.mod_lt _ (by decide))) (t_and15 hF huv hn64)]
      conv => arg 4; cbv
      rw [show F .wrap .i64 (F .sub 58 1) = 57 by rw [hF]; decide +kernel, show F .inB 57 65 = some 57 by rw [hF]; decide +kernel]
      conv => arg 4; cbv
      obtain ⟨u2, hu2⟩ : ∃ z : Int, z = ((n / 16 : Nat) : Int) := ⟨_, rfl⟩
      rw [t_shr4 hF huv hn64, ← hu2]
      conv => arg 4; cbv
      exact AKp.again _ hfr (by repeat (first | exact True.intro | refine ⟨⟨rfl, rfl⟩, ?_⟩)) (by repeat (first | exact True.intro | refine ⟨⟨rfl, rfl, rfl⟩, ?_⟩)) (hJ (n / 16) _ _ (by omega) ⟨8, _, _, [c, a0, a1, a2, a3, a4, a5, a6], hu2, by omega, rfl, by omega, by have : n < 16 * 16 ^ 8 := hn16; omega, g1, g2, rfl, rfl⟩)
    case' false =>
      have hgt := leI0 hF hb
      obtain ⟨c, hc⟩ : ∃ z, z = ((hexC n).toNat : Int) := ⟨_, rfl⟩
      obtain ⟨g1, g2⟩ := fb_end h n _ hhex (by omega) ht
      rw [← hc] at g1 g2
      conv => arg 4; cbv
      rw [show F .getS [48, 49, 50, 51, 52, 53, 54, 55, 56, 57, 97, 98, 99, 100, 101, 102, 103, 104, 105, 106, 107, 108, 109, 110, 111, 112, 113, 114, 115, 116, 117, 118, 119, 120, 121, 122] uv = some c by rw [hc]; exact l_getS hF (dig_at n (by omega)) huv]
      conv => arg 4; cbv
      rw [show F .wrap .i64 (F .sub 58 1) = 57 by rw [hF]; decide +kernel, show F .inB 57 65 = some 57 by rw [hF]; decide +kernel]
      conv => arg 4; cbv
      refine AKp.sliceArr hF hnt 57 rfl rfl rfl rfl rfl rfl rfl (Nat.le_of_ble_eq_true rfl) (Nat.le_of_ble_eq_true rfl) (fun b w => by kernel_rfl) rfl ?_
      conv => arg 4; cbv
      obtain ⟨D, hD⟩ : ∃ D, D = hexD h := ⟨_, rfl⟩
      rw [← hD] at g1 ⊢
      rw [show F .strD [.s (.int .u8 c), .s (.int .u8 a0), .s (.int .u8 a1), .s (.int .u8 a2), .s (.int .u8 a3), .s (.int .u8 a4), .s (.int .u8 a5), .s (.int .u8 a6)] = some D by rw [← g1, hF]; exact strOf_ints g2]
      conv => arg 4; cbv
      exact AKp.doneE tabOK hfr (by rfl) (by rfl)
  · obtain ⟨a0, a1, a2, a3, a4, a5, a6, a7, rfl⟩ : ∃ a0 a1 a2 a3 a4 a5 a6 a7 : Int, t = [a0, a1, a2, a3, a4, a5, a6, a7] := by
      match t, hkt with
      | [a0, a1, a2, a3, a4, a5, a6, a7], _ => exact ⟨a0, a1, a2, a3, a4, a5, a6, a7, rfl⟩
    obtain rfl : jv = 57 := by omega
    conv => arg 4; cbv
    cases hb : F .leI 16 uv
    case' true =>
      have hle := leI1 hF hb
      obtain ⟨c, hc⟩ : ∃ z, z = ((hexC (n % 16)).toNat : Int) := ⟨_, rfl⟩
      obtain ⟨g1, g2⟩ := fb_state h 0 n _ hhex (by omega) ht
      rw [← hc] at g1 g2
      conv => arg 4; cbv
      rw [show F .getS [48, 49, 50, 51, 52, 53, 54, 55, 56, 57, 97, 98, 99, 100, 101, 102, 103, 104, 105, 106, 107, 108, 109, 110, 111, 112, 113, 114, 115, 116, 117, 118, 119, 120, 121, 122] (F .bits .and .u64 uv 15) = some c by rw [hc]; exact l_getS hF (dig_at (n % 16) (Nat.mod_lt _ (by decide))) (t_and15 hF huv hn64)]
      conv => arg 4; cbv
      rw [show F .wrap .i64 (F .sub 57 1) = 56 by rw [hF]; decide +kernel, show F .inB 56 65 = some 56 by rw [hF]; decide +kernel]
      conv => arg 4; cbv
      obtain ⟨u2, hu2⟩ : ∃ z : Int, z = ((n / 16 : Nat) : Int) := ⟨_, rfl⟩
      rw [t_shr4 hF huv hn64, ← hu2]
      conv => arg 4; cbv
      exact AKp.again _ hfr (by repeat (first | exact True.intro | refine ⟨⟨rfl, rfl⟩, ?_⟩)) (by repeat (first | exact True.intro | refine ⟨⟨rfl, rfl, rfl⟩, ?_⟩)) (hJ (n / 16) _ _ (by omega) ⟨9, _, _, [c, a0, a1, a2, a3, a4, a5, a6, a7], hu2, by omega, rfl, by omega, by have : n < 16 * 16 ^ 7 := hn16; omega, g1, g2, rfl, rfl⟩)
    case' false =>
      have hgt := leI0 hF hb
      obtain ⟨c, hc⟩ : ∃ z, z = ((hexC n).toNat : Int) := ⟨_, rfl⟩
      obtain ⟨g1, g2⟩ := fb_end h n _ hhex (by omega) ht
      rw [← hc] at g1 g2
      conv => arg 4; cbv
      rw [show F .getS [48, 49, 50, 51, 52, 53, 54, 55, 56, 57, 97, 98, 99, 100, 101, 102, 103, 104, 105, 106, 107, 108, 109, 110, 111, 112, 113, 114, 115, 116, 117, 118, 119, 120, 121, 122] uv = some c by rw [hc]; exact l_getS hF (dig_at n (by omega)) huv]
      conv => arg 4; cbv
      rw [show F .wrap .i64 (F .sub 57 1) = 56 by rw [hF]; decide +kernel, show F .inB 56 65 = some 56 by rw [hF]; decide +kernel]
      conv => arg 4; cbv
      refine AKp.sliceArr hF hnt 56 rfl rfl rfl rfl rfl rfl rfl (Nat.le_of_ble_eq_true rfl) (Nat.le_of_ble_eq_true rfl) (fun b w => by kernel_rfl) rfl ?_
      conv => arg 4; cbv
      obtain ⟨D, hD⟩ : ∃ D, D = hexD h := ⟨_, rfl⟩
      rw [← hD] at g1 ⊢
      rw [show F .strD [.s (.int .u8 c), .s (.int .u8 a0), .s (.int .u8 a1), .s (.int .u8 a2), .s (.int .u8 a3), .s (.int .u8 a4), .s (.int .u8 a5), .s (.int .u8 a6), .s (.int .u8 a7)] = some D by rw [← g1, hF]; exact strOf_ints g2]
      conv => arg 4; cbv
      exact AKp.doneE tabOK hfr (by rfl) (by rfl)
  · obtain ⟨a0, a1, a2, a3, a4, a5, a6, a7, a8, rfl⟩ : ∃ a0 a1 a2 a3 a4 a5 a6 a7 a8 : Int, t = [a0, a1, a2, a3, a4, a5, a6, a7, a8] := by
      match t, hkt with
      | [a0, a1, a2, a3, a4, a5, a6, a7, a8], _ => exact ⟨a0, a1, a2, a3, a4, a5, a6, a7, a8, rfl⟩
    obtain rfl : jv = 56 := by omega
    conv => arg 4; cbv
    cases hb : F .leI 16 uv
    case' true =>
      have hle := leI1 hF hb
      obtain ⟨c, hc⟩ : ∃ z, z = ((hexC (n % 16)).toNat : Int) := ⟨_, rfl⟩
      obtain ⟨g1, g2⟩ := fb_state h 0 n _ hhex (by omega) ht
      rw [← hc] at g1 g2
      conv => arg 4; cbv
      rw [show F .getS [48, 49, 50, 51, 52, 53, 54, 55, 56, 57, 97, 98, 99, 100, 101, 102, 103, 104, 105, 106, 107, 108, 109, 110, 111, 112, 113, 114, 115, 116, 117, 118, 119, 120, 121, 122] (F .bits .and .u64 uv 15) = some c by rw [hc]; exact l_getS hF (dig_at (n % 16) (Nat.mod_lt _ (by decide))) (t_and15 hF huv hn64)]
      conv => arg 4; cbv
      rw [show F .wrap .i64 (F .sub 56 1) = 55 by rw [hF]; decide +kernel, show F .inB 55 65 = some 55 by rw [hF]; decide +kernel]
      conv => arg 4; cbv
      obtain ⟨u2, hu2⟩ : ∃ z : Int, z = ((n / 16 : Nat) : Int) := ⟨_, rfl⟩
      rw [t_shr4 hF huv hn64, ← hu2]
      conv => arg 4; cbv
      exact AKp.again _ hfr (by repeat (first | exact True.intro | refine ⟨⟨rfl, rfl⟩, ?_⟩)) (by repeat (first | exact True.intro | refine ⟨⟨rfl, rfl, rfl⟩, ?_⟩)) (hJ (n / 16) _ _ (by omega) ⟨10, _, _, [c, a0, a1, a2, a3, a4, a5, a6, a7, a8], hu2, by omega, rfl, by omega, by have : n < 16 * 16 ^ 6 := hn16; omega, g1, g2, rfl, rfl⟩)
    case' false =>
      have hgt := leI0 hF hb
      obtain ⟨c, hc⟩ : ∃ z, z = ((hexC n).toNat : Int) := ⟨_, rfl⟩
      obtain ⟨g1, g2⟩ := fb_end h n _ hhex (by omega) ht
      rw [← hc] at g1 g2
      conv => arg 4; cbv
      rw [show F .getS [48, 49, 50, 51, 52, 53, 54, 55, 56, 57, 97, 98, 99, 100, 101, 102, 103, 104, 105, 106, 107, 108, 109, 110, 111, 112, 113, 114, 115, 116, 117, 118, 119, 120, 121, 122] uv = some c by rw [hc]; exact l_getS hF (dig_at n (by omega)) huv]
      conv => arg 4; cbv
      rw [show F .wrap .i64 (F .sub 56 1) = 55 by rw [hF]; decide +kernel, show F .inB 55 65 = some 55 by rw [hF]; decide +kernel]
      conv => arg 4; cbv
      refine AKp.sliceArr hF hnt 55 rfl rfl rfl rfl rfl rfl rfl (Nat.le_of_ble_eq_true rfl) (Nat.le_of_ble_eq_true rfl) (fun b w => by kernel_rfl) rfl ?_
      conv => arg 4; cbv
      obtain ⟨D, hD⟩ : ∃ D, D = hexD h := ⟨_, rfl⟩
      rw [← hD] at g1 ⊢
      rw [show F .strD [.s (.int .u8 c), .s (.int .u8 a0), .s (.int .u8 a1), .s (.int .u8 a2), .s (.int .u8 a3), .s (.int .u8 a4), .s (.int .u8 a5), .s (.int .u8 a6), .s (.int .u8 a7), .s (.int .u8 a8)] = some D by rw [← g1, hF]; exact strOf_ints g2]
      conv => arg 4; cbv
      exact AKp.doneE tabOK hfr (by rfl) (by rfl)
  · obtain ⟨a0, a1, a2, a3, a4, a5, a6, a7, a8, a9, rfl⟩ : ∃ a0 a1 a2 a3 a4 a5 a6 a7 a8 a9 : Int, t = [a0, a1, a2, a3, a4, a5, a6, a7, a8, a9] := by
      match t, hkt with
      | [a0, a1, a2, a3, a4, a5, a6, a7, a8, a9], _ => exact ⟨a0, a1, a2, a3, a4, a5, a6, a7, a8, a9, rfl⟩
    obtain rfl : jv = 55 := by omega
    conv => arg 4; cbv
    cases hb : F .leI 16 uv
    case' true =>
      have hle := leI1 hF hb
      obtain ⟨c, hc⟩ : ∃ z, z = ((hexC (n % 16)).toNat : Int) := ⟨_, rfl⟩
      obtain ⟨g1, g2⟩ := fb_state h 0 n _ hhex (by omega) ht
      rw [← hc] at g1 g2
      conv => arg 4; cbv
      rw [show F .getS [48, 49, 50, 51, 52, 53, 54, 55, 56, 57, 97, 98, 99, 100, 101, 102, 103, 104, 105, 106, 107, 108, 109, 110, 111, 112, 113, 114, 115, 116, 117, 118, 119, 120, 121, 122] (F .bits .and .u64 uv 15) = some c by rw [hc]; exact l_getS hF (dig_at (n % 16) (Nat.mod_lt _ (by decide))) (t_and15 hF huv hn64)]
      conv => arg 4; cbv
      rw [show F .wrap .i64 (F .sub 55 1) = 54 by rw [hF]; decide +kernel, show F .inB 54 65 = some 54 by rw [hF]; decide +kernel]
      conv => arg 4; cbv
      obtain ⟨u2, hu2⟩ : ∃ z : Int, z = ((n / 16 : Nat) : Int) := ⟨_, rfl⟩
      rw [t_shr4 hF huv hn64, ← hu2]
      conv => arg 4; cbv
      exact AKp.again _ hfr (by repeat (first | exact True.intro | refine ⟨⟨rfl, rfl⟩, ?_⟩)) (by repeat (first | exact True.intro | refine ⟨⟨rfl, rfl, rfl⟩, ?_⟩)) (hJ (n / 16) _ _ (by omega) ⟨11, _, _, [c, a0, a1, a2, a3, a4, a5, a6, a7, a8, a9], hu2, by omega, rfl, by omega, by have : n < 16 * 16 ^ 5 := hn16; omega, g1, g2, rfl, rfl⟩)
    case' false =>
      have hgt := leI0 hF hb
      obtain ⟨c, hc⟩ : ∃ z, z = ((hexC n).toNat : Int) := ⟨_, rfl⟩
      obtain ⟨g1, g2⟩ := fb_end h n _ hhex (by omega) ht
      rw [← hc] at g1 g2
      conv => arg 4; cbv
      rw [show F .getS [48, 49, 50, 51, 52, 53, 54, 55, 56, 57, 97, 98, 99, 100, 101, 102, 103, 104, 105, 106, 107, 108, 109, 110, 111, 112, 113, 114, 115, 116, 117, 118, 119, 120, 121, 122] uv = some c by rw [hc]; exact l_getS hF (dig_at n (by omega)) huv]
      conv => arg 4; cbv
      rw [show F .wrap .i64 (F .sub 55 1) = 54 by rw [hF]; decide +kernel, show F .inB 54 65 = some 54 by rw [hF]; decide +kernel]
      conv => arg 4; cbv
      refine AKp.sliceArr hF hnt 54 rfl rfl rfl rfl rfl rfl rfl (Nat.le_of_ble_eq_true rfl) (Nat.le_of_ble_eq_true rfl) (fun b w => by kernel_rfl) rfl ?_
      conv => arg 4; cbv
      obtain ⟨D, hD⟩ : ∃ D, D = hexD h := ⟨_, rfl⟩
      rw [← hD] at g1 ⊢
      rw [show F .strD [.s (.int .u8 c), .s (.int .u8 a0), .s (.int .u8 a1), .s (.int .u8 a2), .s (.int .u8 a3), .s (.int .u8 a4), .s (.int .u8 a5), .s (.int .u8 a6), .s (.int .u8 a7), .s (.int .u8 a8), .s (.int .u8 a9)] = some D by rw [← g1, hF]; exact strOf_ints g2]
      conv => arg 4; cbv
      exact AKp.doneE tabOK hfr (by rfl) (by rfl)
  · obtain ⟨a0, a1, a2, a3, a4, a5, a6, a7, a8, a9, a10, rfl⟩ : ∃ a0 a1 a2 a3 a4 a5 a6 a7 a8 a9 a10 : Int, t = [a0, a1, a2, a3, a4, a5, a6, a7, a8, a9, a10] := by
      match t, hkt with
      | [a0, a1, a2, a3, a4, a5, a6, a7, a8, a9, a10], _ => exact ⟨a0, a1, a2, a3, a4, a5, a6, a7, a8, a9, a10, rfl⟩
    obtain rfl : jv = 54 := by omega
    conv => arg 4; cbv
    cases hb : F .leI 16 uv
    case' true =>
      have hle := leI1 hF hb
      obtain ⟨c, hc⟩ : ∃ z, z = ((hexC (n % 16)).toNat : Int) := ⟨_, rfl⟩
      obtain ⟨g1, g2⟩ := fb_state h 0 n _ hhex (by omega) ht
      rw [← hc] at g1 g2
      conv => arg 4; cbv
      rw [show F .getS [48, 49, 50, 51, 52, 53, 54, 55, 56, 57, 97, 98, 99, 100, 101, 102, 103, 104, 105, 106, 107, 108, 109, 110, 111, 112, 113, 114, 115, 116, 117, 118, 119, 120, 121, 122] (F .bits .and .u64 uv 15) = some c by rw [hc]; exact l_getS hF (dig_at (n % 16) (Nat.mod_lt _ (by decide))) (t_and15 hF huv hn64)]
      conv => arg 4; cbv
      rw [show F .wrap .i64 (F .sub 54 1) = 53 by rw [hF]; decide +kernel, show F .inB 53 65 = some 53 by rw [hF]; decide +kernel]
      conv => arg 4; cbv
      obtain ⟨u2, hu2⟩ : ∃ z : Int, z = ((n / 16 : Nat) : Int) := ⟨_, rfl⟩
      rw [t_shr4 hF huv hn64, ← hu2]
      conv => arg 4; cbv
      exact AKp.again _ hfr (by repeat (first | exact True.intro | refine ⟨⟨rfl, rfl⟩, ?_⟩)) (by repeat (first | exact True.intro | refine ⟨⟨rfl, rfl, rfl⟩, ?_⟩)) (hJ (n / 16) _ _ (by omega) ⟨12, _, _, [c, a0, a1, a2, a3, a4, a5, a6, a7, a8, a9, a10], hu2, by omega, rfl, by omega, by have : n < 16 * 16 ^ 4 := hn16; omega, g1, g2, rfl, rfl⟩)
    case' false =>
      have hgt := leI0 hF hb
      obtain ⟨c, hc⟩ : ∃ z, z = ((hexC n).toNat : Int) := ⟨_, rfl⟩
      obtain ⟨g1, g2⟩ := fb_end h n _ hhex (by omega) ht
      rw [← hc] at g1 g2
      conv => arg 4; cbv
      rw [show F .getS [48, 49, 50, 51, 52, 53, 54, 55, 56, 57, 97, 98, 99, 100, 101, 102, 103, 104, 105, 106, 107, 108, 109, 110, 111, 112, 113, 114, 115, 116, 117, 118, 119, 120, 121, 122] uv = some c by rw [hc]; exact l_getS hF (dig_at n (by omega)) huv]
      conv => arg 4; cbv
      rw [show F .wrap .i64 (F .sub 54 1) = 53 by rw [hF]; decide +kernel, show F .inB 53 65 = some 53 by rw [hF]; decide +kernel]
      conv => arg 4; cbv
      refine AKp.sliceArr hF hnt 53 rfl rfl rfl rfl rfl rfl rfl (Nat.le_of_ble_eq_true rfl) (Nat.le_of_ble_eq_true rfl) (fun b w => by kernel_rfl) rfl ?_
      conv => arg 4; cbv
      obtain ⟨D, hD⟩ : ∃ D, D = hexD h := ⟨_, rfl⟩
      rw [← hD] at g1 ⊢
      rw [show F .strD [.s (.int .u8 c), .s (.int .u8 a0), .s (.int .u8 a1), .s (.int .u8 a2), .s (.int .u8 a3), .s (.int .u8 a4), .s (.int .u8 a5), .s (.int .u8 a6), .s (.int .u8 a7), .s (.int .u8 a8), .s (.int .u8 a9), .s (.int .u8 a10)] = some D by rw [← g1, hF]; exact strOf_ints g2]
      conv => arg 4; cbv
      exact AKp.doneE tabOK hfr (by rfl) (by rfl)
  · obtain ⟨a0, a1, a2, a3, a4, a5, a6, a7, a8, a9, a10, a11, rfl⟩ : ∃ a0 a1 a2 a3 a4 a5 a6 a7 a8 a9 a10 a11 : Int, t = [a0, a1, a2, a3, a4, a5, a6, a7, a8, a9, a10, a11] := by
      match t, hkt with
      | [a0, a1, a2, a3, a4, a5, a6, a7, a8, a9, a10, a11], _ => exact ⟨a0, a1, a2, a3, a4, a5, a6, a7, a8, a9, a10, a11, rfl⟩
    obtain rfl : jv = 53 := by omega
    conv => arg 4; cbv
    cases hb : F .leI 16 uv
    case' true =>
      have hle := leI1 hF hb
      obtain ⟨c, hc⟩ : ∃ z, z = ((hexC (n % 16)).toNat : Int) := ⟨_, rfl⟩
      obtain ⟨g1, g2⟩ := fb_state h 0 n _ hhex (by omega) ht
      rw [← hc] at g1 g2
      conv => arg 4; cbv
      rw [show F .getS [48, 49, 50, 51, 52, 53, 54, 55, 56, 57, 97, 98, 99, 100, 101, 102, 103, 104, 105, 106, 107, 108, 109, 110, 111, 112, 113, 114, 115, 116, 117, 118, 119, 120, 121, 122] (F .bits .and .u64 uv 15) = some c by rw [hc]; exact l_getS hF (dig_at (n % 16) (Nat.mod_lt _ (by decide))) (t_and15 hF huv hn64)]
      conv => arg 4; cbv
      rw [show F .wrap .i64 (F .sub 53 1) = 52 by rw [hF]; decide +kernel, show F .inB 52 65 = some 52 by rw [hF]; decide +kernel]
      conv => arg 4; cbv
      obtain ⟨u2, hu2⟩ : ∃ z : Int, z = ((n / 16 : Nat) : Int) := ⟨_, rfl⟩
      rw [t_shr4 hF huv hn64, ← hu2]
      conv => arg 4; cbv
      exact AKp.again _ hfr (by repeat (first | exact True.intro | refine ⟨⟨rfl, rfl⟩, ?_⟩)) (by repeat (first | exact True.intro | refine ⟨⟨rfl, rfl, rfl⟩, ?_⟩)) (hJ (n / 16) _ _ (by omega) ⟨13, _, _, [c, a0, a1, a2, a3, a4, a5, a6, a7, a8, a9, a10, a11], hu2, by omega, rfl, by omega, by have : n < 16 * 16 ^ 3 := hn16; omega, g1, g2, rfl, rfl⟩)
    case' false =>
      have hgt := leI0 hF hb
      obtain ⟨c, hc⟩ : ∃ z, z = ((hexC n).toNat : Int) := ⟨_, rfl⟩
      obtain ⟨g1, g2⟩ := fb_end h n _ hhex (by omega) ht
      rw [← hc] at g1 g2
      conv => arg 4; cbv
      rw [show F .getS [48, 49, 50, 51, 52, 53, 54, 55, 56, 57, 97, 98, 99, 100, 101, 102, 103, 104, 105, 106, 107, 108, 109, 110, 111, 112, 113, 114, 115, 116, 117, 118, 119, 120, 121, 122] uv = some c by rw [hc]; exact l_getS hF (dig_at n (by omega)) huv]
      conv => arg 4; cbv
      rw [show F .wrap .i64 (F .sub 53 1) = 52 by rw [hF]; decide +kernel, show F .inB 52 65 = some 52 by rw [hF]; decide +kernel]
      conv => arg 4; cbv
      refine AKp.sliceArr hF hnt 52 rfl rfl rfl rfl rfl rfl rfl (Nat.le_of_ble_eq_true rfl) (Nat.le_of_ble_eq_true rfl) (fun b w => by kernel_rfl) rfl ?_
      conv => arg 4; cbv
      obtain ⟨D, hD⟩ : ∃ D, D = hexD h := ⟨_, rfl⟩
      rw [← hD] at g1 ⊢
      rw [show F .strD [.s (.int .u8 c), .s (.int .u8 a0), .s (.int .u8 a1), .s (.int .u8 a2), .s (.int .u8 a3), .s (.int .u8 a4), .s (.int .u8 a5), .s (.int .u8 a6), .s (.int .u8 a7), .s (.int .u8 a8), .s (.int .u8 a9), .s (.int .u8 a10), .s (.int .u8 a11)] = some D by rw [← g1, hF]; exact strOf_ints g2]
      conv => arg 4; cbv
      exact AKp.doneE tabOK hfr (by rfl) (by rfl)
  · obtain ⟨a0, a1, a2, a3, a4, a5, a6, a7, a8, a9, a10, a11, a12, rfl⟩ : ∃ a0 a1 a2 a3 a4 a5 a6 a7 a8 a9 a10 a11 a12 : Int, t = [a0, a1, a2, a3, a4, a5, a6, a7, a8, a9, a10, a11, a12] := by
      match t, hkt with
      | [a0, a1, a2, a3, a4, a5, a6, a7, a8, a9, a10, a11, a12], _ => exact ⟨a0, a1, a2, a3, a4, a5, a6, a7, a8, a9, a10, a11, a12, rfl⟩
    obtain rfl : jv = 52 := by omega
    conv => arg 4; cbv
    cases hb : F .leI 16 uv
    case' true =>
      have hle := leI1 hF hb
      obtain ⟨c, hc⟩ : ∃ z, z = ((hexC (n % 16)).toNat : Int) := ⟨_, rfl⟩
      obtain ⟨g1, g2⟩ := fb_state h 0 n _ hhex (by omega) ht
      rw [← hc] at g1 g2
      conv => arg 4; cbv
      rw [show F .getS [48, 49, 50, 51, 52, 53, 54, 55, 56, 57, 97, 98, 99, 100, 101, 102, 103, 104, 105, 106, 107, 108, 109, 110, 111, 112, 113, 114, 115, 116, 117, 118, 119, 120, 121, 122] (F .bits .and .u64 uv 15) = some c by rw [hc]; exact l_getS hF (dig_at (n % 16) (Nat.mod_lt _ (by decide))) (t_and15 hF huv hn64)]
      conv => arg 4; cbv
      rw [show F .wrap .i64 (F .sub 52 1) = 51 by rw [hF]; decide +kernel, show F .inB 51 65 = some 51 by rw [hF]; decide +kernel]
      conv => arg 4; cbv
      obtain ⟨u2, hu2⟩ : ∃ z : Int, z = ((n / 16 : Nat) : Int) := ⟨_, rfl⟩
      rw [t_shr4 hF huv hn64, ← hu2]
      conv => arg 4; cbv
      exact AKp.again _ hfr (by repeat (first | exact True.intro | refine ⟨⟨rfl, rfl⟩, ?_⟩)) (by repeat (first | exact True.intro | refine ⟨⟨rfl, rfl, rfl⟩, ?_⟩)) (hJ (n / 16) _ _ (by omega) ⟨14, _, _, [c, a0, a1, a2, a3, a4, a5, a6, a7, a8, a9, a10, a11, a12], hu2, by omega, rfl, by omega, by have : n < 16 * 16 ^ 2 := hn16; omega, g1, g2, rfl, rfl⟩)
    case' false =>
      have hgt := leI0 hF hb
      obtain ⟨c, hc⟩ : ∃ z, z = ((hexC n).toNat : Int) := ⟨_, rfl⟩
      obtain ⟨g1, g2⟩ := fb_end h n _ hhex (by omega) ht
      rw [← hc] at g1 g2
      conv => arg 4; cbv
      rw [show F .getS [48, 49, 50, 51, 52, 53, 54, 55, 56, 57, 97, 98, 99, 100, 101, 102, 103, 104, 105, 106, 107, 108, 109, 110, 111, 112, 113, 114, 115, 116, 117, 118, 119, 120, 121, 122] uv = some c by rw [hc]; exact l_getS hF (dig_at n (by omega)) huv]
      conv => arg 4; cbv
      rw [show F .wrap .i64 (F .sub 52 1) = 51 by rw [hF]; decide +kernel, show F .inB 51 65 = some 51 by rw [hF]; decide +kernel]
      conv => arg 4; cbv
      refine AKp.sliceArr hF hnt 51 rfl rfl rfl rfl rfl rfl rfl (Nat.le_of_ble_eq_true rfl) (Nat.le_of_ble_eq_true rfl) (fun b w => by kernel_rfl) rfl ?_
      conv => arg 4; cbv
      obtain ⟨D, hD⟩ : ∃ D, D = hexD h := ⟨_, rfl⟩
      rw [← hD] at g1 ⊢
      rw [show F .strD [.s (.int .u8 c), .s (.int .u8 a0), .s (.int .u8 a1), .s (.int .u8 a2), .s (.int .u8 a3), .s (.int .u8 a4), .s (.int .u8 a5), .s (.int .u8 a6), .s (.int .u8 a7), .s (.int .u8 a8), .s (.int .u8 a9), .s (.int .u8 a10), .s (.int .u8 a11), .s (.int .u8 a12)] = some D by rw [← g1, hF]; exact strOf_ints g2]
      conv => arg 4; cbv
      exact AKp.doneE tabOK hfr (by rfl) (by rfl)
  · obtain ⟨a0, a1, a2, a3, a4, a5, a6, a7, a8, a9, a10, a11, a12, a13, rfl⟩ : ∃ a0 a1 a2 a3 a4 a5 a6 a7 a8 a9 a10 a11 a12 a13 : Int, t = [a0, a1, a2, a3, a4, a5, a6, a7, a8, a9, a10, a11, a12, a13] := by
      match t, hkt with
      | [a0, a1, a2, a3, a4, a5, a6, a7, a8, a9, a10, a11, a12, a13], _ => exact ⟨a0, a1, a2, a3, a4, a5, a6, a7, a8, a9, a10, a11, a12, a13, rfl⟩
    obtain rfl : jv = 51 := by omega
    conv => arg 4; cbv
    cases hb : F .leI 16 uv
    case' true =>
      have hle := leI1 hF hb
      obtain ⟨c, hc⟩ : ∃ z, z = ((hexC (n % 16)).toNat : Int) := ⟨_, rfl⟩
      obtain ⟨g1, g2⟩ := fb_state h 0 n _ hhex (by omega) ht
      rw [← hc] at g1 g2
      conv => arg 4; cbv
      rw [show F .getS [48, 49, 50, 51, 52, 53, 54, 55, 56, 57, 97, 98, 99, 100, 101, 102, 103, 104, 105, 106, 107, 108, 109, 110, 111, 112, 113, 114, 115, 116, 117, 118, 119, 120, 121, 122] (F .bits .and .u64 uv 15) = some c by rw [hc]; exact l_getS hF (dig_at (n % 16) (Nat.mod_lt _ (by decide))) (t_and15 hF huv hn64)]
      conv => arg 4; cbv
      rw [show F .wrap .i64 (F .sub 51 1) = 50 by rw [hF]; decide +kernel, show F .inB 50 65 = some 50 by rw [hF]; decide +kernel]
      conv => arg 4; cbv
      obtain ⟨u2, hu2⟩ : ∃ z : Int, z = ((n / 16 : Nat) : Int) := ⟨_, rfl⟩
      rw [t_shr4 hF huv hn64, ← hu2]
      conv => arg 4; cbv
      exact AKp.again _ hfr (by repeat (first | exact True.intro | refine ⟨⟨rfl, rfl⟩, ?_⟩)) (by repeat (first | exact True.intro | refine ⟨⟨rfl, rfl, rfl⟩, ?_⟩)) (hJ (n / 16) _ _ (by omega) ⟨15, _, _, [c, a0, a1, a2, a3, a4, a5, a6, a7, a8, a9, a10, a11, a12, a13], hu2, by omega, rfl, by omega, by have : n < 16 * 16 ^ 1 := hn16; omega, g1, g2, rfl, rfl⟩)
    case' false =>
      have hgt := leI0 hF hb
      obtain ⟨c, hc⟩ : ∃ z, z = ((hexC n).toNat : Int) := ⟨_, rfl⟩
      obtain ⟨g1, g2⟩ := fb_end h n _ hhex (by omega) ht
      rw [← hc] at g1 g2
      conv => arg 4; cbv
      rw [show F .getS [48, 49, 50, 51, 52, 53, 54, 55, 56, 57, 97, 98, 99, 100, 101, 102, 103, 104, 105, 106, 107, 108, 109, 110, 111, 112, 113, 114, 115, 116, 117, 118, 119, 120, 121, 122] uv = some c by rw [hc]; exact l_getS hF (dig_at n (by omega)) huv]
      conv => arg 4; cbv
      rw [show F .wrap .i64 (F .sub 51 1) = 50 by rw [hF]; decide +kernel, show F .inB 50 65 = some 50 by rw [hF]; decide +kernel]
      conv => arg 4; cbv
      refine AKp.sliceArr hF hnt 50 rfl rfl rfl rfl rfl rfl rfl (Nat.le_of_ble_eq_true rfl) (Nat.le_of_ble_eq_true rfl) (fun b w => by kernel_rfl) rfl ?_
      conv => arg 4; cbv
      obtain ⟨D, hD⟩ : ∃ D, D = hexD h := ⟨_, rfl⟩
      rw [← hD] at g1 ⊢
      rw [show F .strD [.s (.int .u8 c), .s (.int .u8 a0), .s (.int .u8 a1), .s (.int .u8 a2), .s (.int .u8 a3), .s (.int .u8 a4), .s (.int .u8 a5), .s (.int .u8 a6), .s (.int .u8 a7), .s (.int .u8 a8), .s (.int .u8 a9), .s (.int .u8 a10), .s (.int .u8 a11), .s (.int .u8 a12), .s (.int .u8 a13)] = some D by rw [← g1, hF]; exact strOf_ints g2]
      conv => arg 4; cbv
      exact AKp.doneE tabOK hfr (by rfl) (by rfl)
  · obtain ⟨a0, a1, a2, a3, a4, a5, a6, a7, a8, a9, a10, a11, a12, a13, a14, rfl⟩ : ∃ a0 a1 a2 a3 a4 a5 a6 a7 a8 a9 a10 a11 a12 a13 a14 : Int, t = [a0, a1, a2, a3, a4, a5, a6, a7, a8, a9, a10, a11, a12, a13, a14] := by
      match t, hkt with
      | [a0, a1, a2, a3, a4, a5, a6, a7, a8, a9, a10, a11, a12, a13, a14], _ => exact ⟨a0, a1, a2, a3, a4, a5, a6, a7, a8, a9, a10, a11, a12, a13, a14, rfl⟩
    obtain rfl : jv = 50 := by omega
    conv => arg 4; cbv
    cases hb : F .leI 16 uv
    case' true =>
      have hle := leI1 hF hb
      exact absurd hle (by have : n < 16 := hn16; omega)
    case' false =>
      have hgt := leI0 hF hb
      obtain ⟨c, hc⟩ : ∃ z, z = ((hexC n).toNat : Int) := ⟨_, rfl⟩
      obtain ⟨g1, g2⟩ := fb_end h n _ hhex (by omega) ht
      rw [← hc] at g1 g2
      conv => arg 4; cbv
      rw [show F .getS [48, 49, 50, 51, 52, 53, 54, 55, 56, 57, 97, 98, 99, 100, 101, 102, 103, 104, 105, 106, 107, 108, 109, 110, 111, 112, 113, 114, 115, 116, 117, 118, 119, 120, 121, 122] uv = some c by rw [hc]; exact l_getS hF (dig_at n (by omega)) huv]
      conv => arg 4; cbv
      rw [show F .wrap .i64 (F .sub 50 1) = 49 by rw [hF]; decide +kernel, show F .inB 49 65 = some 49 by rw [hF]; decide +kernel]
      conv => arg 4; cbv
      refine AKp.sliceArr hF hnt 49 rfl rfl rfl rfl rfl rfl rfl (Nat.le_of_ble_eq_true rfl) (Nat.le_of_ble_eq_true rfl) (fun b w => by kernel_rfl) rfl ?_
      conv => arg 4; cbv
      obtain ⟨D, hD⟩ : ∃ D, D = hexD h := ⟨_, rfl⟩
      rw [← hD] at g1 ⊢
      rw [show F .strD [.s (.int .u8 c), .s (.int .u8 a0), .s (.int .u8 a1), .s (.int .u8 a2), .s (.int .u8 a3), .s (.int .u8 a4), .s (.int .u8 a5), .s (.int .u8 a6), .s (.int .u8 a7), .s (.int .u8 a8), .s (.int .u8 a9), .s (.int .u8 a10), .s (.int .u8 a11), .s (.int .u8 a12), .s (.int .u8 a13), .s (.int .u8 a14)] = some D by rw [← g1, hF]; exact strOf_ints g2]
      conv => arg 4; cbv
      exact AKp.doneE tabOK hfr (by rfl) (by rfl)
end Go.Proofs.YtpoebpggapfooaaDoor

/- Sixteen digits. -/
namespace Go.Proofs.YtpoebpggapfooaaDoor
open Go Go.Proofs Go.Ua Go.Extern
set_option linter.unusedVariables false
set_option linter.unusedSimpArgs false
set_option maxRecDepth 10000

/-- The last k digits. -/
def hexN : Nat → Nat → List UInt8
  | 0, _ => []
  | k + 1, n => hexN k (n / 16) ++ [hexC (n % 16)]
theorem hexN_len : ∀ (k n : Nat), (hexN k n).length = k
  | 0, _ => rfl
  | k + 1, n => by simp [hexN, hexN_len k]
theorem hexN_D : ∀ (k n : Nat), n < 16 ^ (k + 1) → (hexD n).length ≤ k + 1 ∧ hexN (k + 1) n = List.replicate (k + 1 - (hexD n).length) 48 ++ hexD n
  | 0, n, h => by
    have h : n < 16 := h
    rw [hexD_small h]
    simp [hexN, Nat.mod_eq_of_lt h]
  | k + 1, n, h => by
    have h : n < 16 ^ (k + 1) * 16 := h
    rw [show hexN (k + 1 + 1) n = hexN (k + 1) (n / 16) ++ [hexC (n % 16)] from rfl]
    obtain ⟨g1, g2⟩ := hexN_D k (n / 16) (by omega)
    rw [g2]
    by_cases hs : n < 16
    · have e : n / 16 = 0 := by omega
      rw [e, hexD_small hs, hexD_small (by decide : 0 < 16), Nat.mod_eq_of_lt hs]
      refine ⟨by simp, ?_⟩
      show List.replicate k 48 ++ [48] ++ [hexC n] = List.replicate (k + 1) 48 ++ [hexC n]
      rw [List.replicate_succ']
    · rw [hexD_big hs]
      simp only [List.length_append, List.length_singleton]
      refine ⟨by omega, ?_⟩
      rw [show k + 1 + 1 - ((hexD (n / 16)).length + 1) = k + 1 - (hexD (n / 16)).length by omega]
      simp

theorem FormatUintI16 (h : Nat) (hlt : h < 18446744073709551616) : ESpec Tryd.prog 42 [.d (.s (.int .u64 h)), .d (.s (.int .i64 16))] (fun x => x = .d (.s (.str (hexD h)))) := by
  have sp := formatBits16 h hlt
  obtain ⟨hv, hhv⟩ : ∃ z : Int, z = h := ⟨_, rfl⟩
  obtain ⟨D, hD⟩ : ∃ z, z = hexD h := ⟨_, rfl⟩
  rw [← hhv, ← hD] at sp ⊢
  refine ESpec.enter Tryd.func42 (by kernel_rfl) rfl (Nat.le_of_ble_eq_true rfl) fun _ cx hnt hfr => ?_
  obtain ⟨F, hF⟩ := real_ex
  refine AK.run hF tabOK hnt ?_
  conv => arg 4; cbv
  rw [show F .eqI 16 10 = false by rw [hF]; decide +kernel]
  conv => arg 4; cbv
  refine AKp.call hF tabOK hnt sp rfl rfl rfl rfl rfl rfl rfl (by repeat' first | exact .refl _ | constructor) ?_
  rintro _ rfl
  conv => arg 4; cbv
  exact AKp.doneE tabOK hfr (by rfl) (by rfl)
theorem FormatUint16 (h : Nat) (hlt : h < 18446744073709551616) : ESpec Tryd.prog 34 [.d (.s (.int .u64 h)), .d (.s (.int .i64 16))] (fun x => x = .d (.s (.str (hexD h)))) := by
  have sp := FormatUintI16 h hlt
  obtain ⟨hv, hhv⟩ : ∃ z : Int, z = h := ⟨_, rfl⟩
  obtain ⟨D, hD⟩ : ∃ z, z = hexD h := ⟨_, rfl⟩
  rw [← hhv, ← hD] at sp ⊢
  refine ESpec.enter Tryd.func34 (by kernel_rfl) rfl (Nat.le_of_ble_eq_true rfl) fun _ cx hnt hfr => ?_
  obtain ⟨F, hF⟩ := real_ex
  refine AK.run hF tabOK hnt ?_
  conv => arg 4; cbv
  refine AKp.call hF tabOK hnt sp rfl rfl rfl rfl rfl rfl rfl (by repeat' first | exact .refl _ | constructor) ?_
  rintro _ rfl
  conv => arg 4; cbv
  exact AKp.doneE tabOK hfr (by rfl) (by rfl)
theorem Hex_spec (h : Nat) (hlt : h < 18446744073709551616) : ESpec Tryd.prog 23 [.d (.s (.int .u64 h))] (fun x => x = .d (.s (.str (hexN 16 h)))) := by
  have sp := FormatUint16 h hlt
  obtain ⟨hl, hN⟩ := hexN_D 15 h hlt
  have sr := Repeat_spec [48] (16 - (hexD h).length) (by omega) (by simp; omega)
  have hrl : Lib.repeatL [48] (16 - (hexD h).length) = List.replicate (16 - (hexD h).length) 48 := by
    generalize 16 - (hexD h).length = c
    induction c with
    | zero => rfl
    | succ c ih => rw [List.replicate_succ, ← ih]; rfl
  rw [hrl] at sr
  obtain ⟨hv, hhv⟩ : ∃ z : Int, z = h := ⟨_, rfl⟩
  obtain ⟨D, hD⟩ : ∃ z, z = hexD h := ⟨_, rfl⟩
  obtain ⟨Z, hZ⟩ : ∃ z, z = List.replicate (16 - D.length) (48 : UInt8) := ⟨_, rfl⟩
  obtain ⟨cv, hcv⟩ : ∃ z : Int, z = ((16 - D.length : Nat) : Int) := ⟨_, rfl⟩
  rw [← hD] at hl hN sr sp
  rw [hN]
  rw [← hcv, ← hZ] at sr
  rw [← hhv] at sp ⊢
  refine ESpec.enter Tryd.func23 (by kernel_rfl) rfl (Nat.le_of_ble_eq_true rfl) fun _ cx hnt hfr => ?_
  obtain ⟨F, hF⟩ := real_ex
  refine AK.run hF tabOK hnt ?_
  conv => arg 4; cbv
  refine AKp.call hF tabOK hnt sp rfl rfl rfl rfl rfl rfl rfl (by repeat' first | exact .refl _ | constructor) ?_
  rintro _ rfl
  conv => arg 4; cbv
  rw [show F .wrap .i64 (F .sub 16 (F .lenS D)) = cv by
    rw [hF]
    show IntKind.i64.wrap (16 - (D.length : Int)) = _
    rw [w_i64 (by omega) (by omega), hcv]
    omega]
  conv => arg 4; cbv
  refine AKp.call hF tabOK hnt sr rfl rfl rfl rfl rfl rfl rfl (by repeat' first | exact .refl _ | constructor) ?_
  rintro _ rfl
  conv => arg 4; cbv
  rw [l_cat hF (a := Z) (b := D) (by rw [hZ]; simp; exact Nat.le_trans (show 16 - D.length + D.length ≤ 16 by omega) (by decide))]
  obtain ⟨R, hR⟩ : ∃ R, R = Z ++ D := ⟨_, rfl⟩
  rw [← hR]
  conv => arg 4; cbv
  rw [show List.replicate (15 + 1 - D.length) 48 ++ D = R by rw [hR, hZ]]
  exact AKp.doneE tabOK hfr (by rfl) (by rfl)

theorem RefHex_spec (h : Nat) (hlt : h < 18446744073709551616) : ESpec Tryd.prog 15 [.d (.s (.int .u64 h))] (fun x => x = .d (.s (.str (hexN 16 h)))) := by
  obtain ⟨hv, hhv⟩ : ∃ z : Int, z = h := ⟨_, rfl⟩
  rw [← hhv]
  refine ESpec.enter Tryd.func15 (by kernel_rfl) rfl (Nat.le_of_ble_eq_true rfl) fun _ cx hnt hfr => ?_
  obtain ⟨F, hF⟩ := real_ex
  refine AK.runT hF tabOK hmix hnt hfr true [] trivial ?_
  conv => arg 4; cbv
  repeat' (first | with_reducible refine AKt.have ?_ | with_reducible refine AKt.tt ?_ | with_reducible refine AKt.ff ?_ | with_reducible refine AKt.yes (by assumption) ?_ | with_reducible refine AKt.no (by assumption) ?_ | with_reducible refine AKt.node (fun hb => ?_) (fun hb => ?_) | with_reducible refine AKt.need ?_ (fun hb => ?_) | with_reducible refine AKt.leaf ?_ | ((with_reducible show _ = true); assumption))
  refine AKp.enterLoop 5 ?_
  conv => arg 7; cbv
  refine AKl.invT hF tabOK hmix hnt hfr true [] trivial (fun n vs hs => ∃ (i u : Nat) (iv uv : Int) (s : List UInt8), i + n = 16 ∧ iv = i ∧ uv = u ∧ u < 18446744073709551616 ∧ hexN 16 h = hexN (16 - i) u ++ s ∧ s.length = i ∧ vs = [(4, .d (.s (.int .i64 iv))), (3, .d (.s (.str s))), (0, .d (.s (.int .u64 uv)))] ∧ hs = []) 16 ⟨0, h, _, hv, [], by omega, rfl, hhv, hlt, by simp, rfl, rfl, rfl⟩ (by repeat (first | exact True.intro | refine ⟨⟨rfl, rfl⟩, ?_⟩)) (by repeat (first | exact True.intro | refine ⟨⟨rfl, rfl, rfl⟩, ?_⟩)) ?_
  rintro J n vs hs hJ ⟨i, u, iv, uv, s, hi, hiv, huv, hu, hhx, hsl, rfl, rfl⟩
  have hlt16 : u % 16 < 16 := Nat.mod_lt _ (by decide)
  have hr : F .tmod uv 16 = ((u % 16 : Nat) : Int) := by rw [hF, huv]; rfl
  have hq : F .wrap .u64 (F .tdiv uv 16) = ((u / 16 : Nat) : Int) := by
    rw [hF, huv]
    show IntKind.u64.wrap (Int.tdiv (u : Int) 16) = _
    rw [show Int.tdiv (u : Int) 16 = ((u / 16 : Nat) : Int) from rfl, IntKind.wrap_u64]
    omega
  have hb : F .wrap .u8 ((u % 16 : Nat) : Int) = ((u % 16 : Nat) : Int) := by rw [hF]; exact w_u8 (by omega) (by omega)
  have hlo : u % 16 < 10 → F .wrap .u8 (F .add ((u % 16 : Nat) : Int) 48) = ((hexC (u % 16)).toNat : Int) := fun hl => by
    rw [hF]
    show IntKind.u8.wrap (((u % 16 : Nat) : Int) + 48) = _
    rw [w_u8 (by omega) (by omega), hexC, if_pos hl, UInt8.toNat_ofNat']
    omega
  have hhi : ¬ u % 16 < 10 → F .wrap .u8 (F .add ((u % 16 : Nat) : Int) 87) = ((hexC (u % 16)).toNat : Int) := fun hl => by
    rw [hF]
    show IntKind.u8.wrap (((u % 16 : Nat) : Int) + 87) = _
    rw [w_u8 (by omega) (by omega), hexC, if_neg hl, UInt8.toNat_ofNat']
    omega
  have hstep : i < 16 → hexN 16 h = hexN (16 - (i + 1)) (u / 16) ++ (hexC (u % 16) :: s) := fun hl => by
    rw [hhx, show 16 - i = (16 - (i + 1)) + 1 by omega, hexN]
    simp
  obtain ⟨rv, hrv⟩ : ∃ z : Int, z = ((u % 16 : Nat) : Int) := ⟨_, rfl⟩
  obtain ⟨c, hc⟩ : ∃ c, c = hexC (u % 16) := ⟨_, rfl⟩
  obtain ⟨cv, hcv⟩ : ∃ z : Int, z = (c.toNat : Int) := ⟨_, rfl⟩
  rw [← hrv] at hr hb hlo hhi
  rw [← hc, ← hcv] at hlo hhi
  rw [← hc] at hstep
  have hst : F .hasStr [.s (.int .u8 cv)] = true := by
    rw [hF, f_hasStr, hcv]
    show (strOf ([(c.toNat : Int)].map fun n => Dat.s (.int .u8 n))).isSome = true
    rw [strOf_ints (by have := UInt8.toNat_lt c; simp; omega)]; rfl
  have hst2 : F .ofStr [.s (.int .u8 cv)] = [c] := by
    rw [hF, f_ofStr, hcv]
    show (strOf ([(c.toNat : Int)].map fun n => Dat.s (.int .u8 n))).getD [] = _
    rw [strOf_ints (by have := UInt8.toNat_lt c; simp; omega)]
    simp [bytesI]
  conv => arg 4; cbv
  rw [hr, hb]
  refine AKt.node (fun hb1 => ?_) (fun hb1 => ?_)
  · have hlt : i < 16 := by simp only [hF, f_ltI, f_leI, f_eqI, f_eqS, f_eqB, f_not, f_andB, f_orB, f_lenS, f_lenD, f_hasS, f_atS, f_hasC, f_subS, f_hasCat, f_app, f_wrap, f_add, f_sub, f_mul, f_appD, f_fits, f_hasV, f_subV, decide_eq_true_eq, decide_eq_false_iff_not, beq_iff_eq, beq_eq_false_iff_ne, Bool.and_eq_true, Bool.and_eq_false_iff, Bool.not_eq_true, Bool.not_eq_false, Bool.not_eq_eq_eq_not, Bool.not_true, Bool.not_false] at hb1; omega
    have hca : F .hasCat [c] s = true := t_hasCat hF (by simp; omega)
    have hap : F .app [c] s = c :: s := by rw [hF]; rfl
    refine AKt.node (fun hb2 => ?_) (fun hb2 => ?_)
    · rw [hlo (by simp only [hF, f_ltI, f_leI, f_eqI, f_eqS, f_eqB, f_not, f_andB, f_orB, f_lenS, f_lenD, f_hasS, f_atS, f_hasC, f_subS, f_hasCat, f_app, f_wrap, f_add, f_sub, f_mul, f_appD, f_fits, f_hasV, f_subV, decide_eq_true_eq, decide_eq_false_iff_not, beq_iff_eq, beq_eq_false_iff_ne, Bool.and_eq_true, Bool.and_eq_false_iff, Bool.not_eq_true, Bool.not_eq_false, Bool.not_eq_eq_eq_not, Bool.not_true, Bool.not_false] at hb2; omega), hst2, hap, hq]
      repeat' (first | with_reducible refine AKt.have ?_ | with_reducible refine AKt.tt ?_ | with_reducible refine AKt.ff ?_ | with_reducible refine AKt.yes (by assumption) ?_ | with_reducible refine AKt.no (by assumption) ?_ | with_reducible refine AKt.node (fun hb => ?_) (fun hb => ?_) | with_reducible refine AKt.need ?_ (fun hb => ?_) | with_reducible refine AKt.leaf ?_ | ((with_reducible show _ = true); assumption))
      refine AKp.again _ hfr (by repeat (first | exact True.intro | refine ⟨⟨rfl, rfl⟩, ?_⟩)) (by repeat (first | exact True.intro | refine ⟨⟨rfl, rfl, rfl⟩, ?_⟩)) (hJ (n - 1) _ _ (by omega) ⟨i + 1, u / 16, _, _, _, by omega, inc_i hF hiv (by omega), rfl, by omega, hstep hlt, by simp [hsl], rfl, rfl⟩)
    · rw [hhi (by simp only [hF, f_ltI, f_leI, f_eqI, f_eqS, f_eqB, f_not, f_andB, f_orB, f_lenS, f_lenD, f_hasS, f_atS, f_hasC, f_subS, f_hasCat, f_app, f_wrap, f_add, f_sub, f_mul, f_appD, f_fits, f_hasV, f_subV, decide_eq_true_eq, decide_eq_false_iff_not, beq_iff_eq, beq_eq_false_iff_ne, Bool.and_eq_true, Bool.and_eq_false_iff, Bool.not_eq_true, Bool.not_eq_false, Bool.not_eq_eq_eq_not, Bool.not_true, Bool.not_false] at hb2; omega), hst2, hap, hq]
      repeat' (first | with_reducible refine AKt.have ?_ | with_reducible refine AKt.tt ?_ | with_reducible refine AKt.ff ?_ | with_reducible refine AKt.yes (by assumption) ?_ | with_reducible refine AKt.no (by assumption) ?_ | with_reducible refine AKt.node (fun hb => ?_) (fun hb => ?_) | with_reducible refine AKt.need ?_ (fun hb => ?_) | with_reducible refine AKt.leaf ?_ | ((with_reducible show _ = true); assumption))
      refine AKp.again _ hfr (by repeat (first | exact True.intro | refine ⟨⟨rfl, rfl⟩, ?_⟩)) (by repeat (first | exact True.intro | refine ⟨⟨rfl, rfl, rfl⟩, ?_⟩)) (hJ (n - 1) _ _ (by omega) ⟨i + 1, u / 16, _, _, _, by omega, inc_i hF hiv (by omega), rfl, by omega, hstep hlt, by simp [hsl], rfl, rfl⟩)
  · have hge : ¬ i < 16 := by simp only [hF, f_ltI, f_leI, f_eqI, f_eqS, f_eqB, f_not, f_andB, f_orB, f_lenS, f_lenD, f_hasS, f_atS, f_hasC, f_subS, f_hasCat, f_app, f_wrap, f_add, f_sub, f_mul, f_appD, f_fits, f_hasV, f_subV, decide_eq_true_eq, decide_eq_false_iff_not, beq_iff_eq, beq_eq_false_iff_ne, Bool.and_eq_true, Bool.and_eq_false_iff, Bool.not_eq_true, Bool.not_eq_false, Bool.not_eq_eq_eq_not, Bool.not_true, Bool.not_false] at hb1; omega
    obtain rfl : i = 16 := by omega
    rw [hhx]
    repeat' (first | with_reducible refine AKt.have ?_ | with_reducible refine AKt.tt ?_ | with_reducible refine AKt.ff ?_ | with_reducible refine AKt.yes (by assumption) ?_ | with_reducible refine AKt.no (by assumption) ?_ | with_reducible refine AKt.node (fun hb => ?_) (fun hb => ?_) | with_reducible refine AKt.need ?_ (fun hb => ?_) | with_reducible refine AKt.leaf ?_ | ((with_reducible show _ = true); assumption))
    refine AKp.doneE tabOK hfr (by rfl) ?_
    show _ = _
    simp only [tupAV]
    rfl
theorem HexI_spec (n : Int) : ESpec Tryd.prog 23 [.d (.s (.int .u64 n))] (fun x => x = .d (.s (.str (hexN 16 n.toNat)))) :=
  ESpec.ok (enters_of Tryd.func23 (by kernel_rfl) rfl) fun hok => by
    have h1 : 0 ≤ n := hok.1.1
    have h2 : n ≤ 18446744073709551615 := hok.1.2
    have := Hex_spec n.toNat (by omega)
    rwa [Int.toNat_of_nonneg h1] at this
theorem RefHexI_spec (n : Int) : ESpec Tryd.prog 15 [.d (.s (.int .u64 n))] (fun x => x = .d (.s (.str (hexN 16 n.toNat)))) :=
  ESpec.ok (enters_of Tryd.func15 (by kernel_rfl) rfl) fun hok => by
    have h1 : 0 ≤ n := hok.1.1
    have h2 : n ≤ 18446744073709551615 := hok.1.2
    have := RefHex_spec n.toNat (by omega)
    rwa [Int.toNat_of_nonneg h1] at this
def φHex (u : Int → List UInt8) : List AV → Option (Bool × AV)
  | [.d (.s (.int .u64 n))] => some (true, .d (.s (.str (u n))))
  | _ => none
theorem φHex_ok : SpOK Tryd.prog 23 (φHex (fun n => hexN 16 n.toNat)) := by
  intro xs b x h hb
  unfold φHex at h
  split at h
  · simp only [Option.some.injEq, Prod.mk.injEq] at h
    obtain ⟨rfl, rfl⟩ := h
    exact HexI_spec _
  · cases h
def φRefHex (u : Int → List UInt8) : List AV → Option (Bool × AV)
  | [.d (.s (.int .u64 n))] => some (true, .d (.s (.str (u n))))
  | _ => none
theorem φRefHex_ok : SpOK Tryd.prog 15 (φRefHex (fun n => hexN 16 n.toNat)) := by
  intro xs b x h hb
  unfold φRefHex at h
  split at h
  · simp only [Option.some.injEq, Prod.mk.injEq] at h
    obtain ⟨rfl, rfl⟩ := h
    exact RefHexI_spec _
  · cases h
end Go.Proofs.YtpoebpggapfooaaDoor

/- Back from sixteen digits. -/
namespace Go.Proofs.YtpoebpggapfooaaDoor
open Go Go.Proofs Go.Ua Go.Extern
set_option linter.unusedVariables false
set_option linter.unusedSimpArgs false
set_option maxRecDepth 10000

def hexOK (c : UInt8) : Bool := (decide (48 ≤ c.toNat) && decide (c.toNat ≤ 57)) || (decide (97 ≤ c.toNat) && decide (c.toNat ≤ 102))
def hexV (c : UInt8) : Nat := if c.toNat ≤ 57 then c.toNat - 48 else c.toNat - 87
def foldH (w : List UInt8) : Nat := w.foldl (fun n c => 16 * n + hexV c) 0
def unhexB (w : List UInt8) : Bool := decide (w.length = 16) && w.all hexOK
def unhexV (w : List UInt8) : Int := if unhexB w = true then (foldH w : Int) else 0
theorem foldH_take {w : List UInt8} {i : Nat} {c : UInt8} (h : w[i]? = some c) : foldH (w.take (i + 1)) = 16 * foldH (w.take i) + hexV c := by
  rw [List.take_add_one, h]
  simp [foldH, List.foldl_append]
theorem hexV_lt {c : UInt8} (h : hexOK c = true) : hexV c < 16 := by
  unfold hexOK at h
  unfold hexV
  simp only [Bool.or_eq_true, Bool.and_eq_true, decide_eq_true_eq] at h
  split <;> omega
theorem foldH_lt {w : List UInt8} : ∀ (i : Nat), i ≤ w.length → (w.take i).all hexOK = true → foldH (w.take i) < 16 ^ i := by
  intro i
  induction i with
  | zero => intro _ _; simp [foldH]
  | succ i ih =>
    intro hi hall
    obtain ⟨c, hc⟩ : ∃ c, w[i]? = some c := ⟨_, List.getElem?_eq_getElem (by omega)⟩
    rw [List.take_add_one, hc] at hall
    simp only [Option.toList_some, List.all_append, Bool.and_eq_true, List.all_cons, List.all_nil, Bool.and_true] at hall
    have := ih (by omega) hall.1
    have h2 := hexV_lt hall.2
    rw [foldH_take hc, Nat.pow_succ]
    omega
theorem ib_hex (c : UInt8) : Lib.indexByte [48, 49, 50, 51, 52, 53, 54, 55, 56, 57, 97, 98, 99, 100, 101, 102] c = if hexOK c = true then (hexV c : Int) else -1 := by
  have e : ∀ n : Nat, n < 256 → Lib.indexByte [48, 49, 50, 51, 52, 53, 54, 55, 56, 57, 97, 98, 99, 100, 101, 102] (UInt8.ofNat n) = if hexOK (UInt8.ofNat n) = true then (hexV (UInt8.ofNat n) : Int) else -1 := by decide +kernel
  have := e c.toNat (UInt8.toNat_lt c)
  rwa [UInt8.ofNat_toNat] at this
theorem or16 (a k : Nat) (hk : k < 16) (ha : a < 1152921504606846976) : bits .or .u64 ((16 * a : Nat) : Int) (k : Int) = ((16 * a + k : Nat) : Int) := by
  rw [bits_or_u64_nat (16 * a) k (by omega) (by omega)]
  rw [show 16 * a = 2 ^ 4 * a by rfl, ← Nat.two_pow_add_eq_or_of_lt (by omega : k < 2 ^ 4)]

theorem IndexByteI_spec (s : List UInt8) (n : Int) : ESpec Tryd.prog 39 [.d (.s (.str s)), .d (.s (.int .u8 n))] (fun x => x = .d (.s (.int .i64 (Lib.indexByte s (UInt8.ofNat n.toNat))))) :=
  ESpec.ok (enters_of Tryd.func39 (by kernel_rfl) rfl) fun hok => by
    have := IndexByte_spec s (UInt8.ofNat n.toNat)
    rwa [u8_of hok.2.1] at this
def φIndexByte (u : List UInt8 → Int → Int) : List AV → Option (Bool × AV)
  | [.d (.s (.str s)), .d (.s (.int .u8 n))] => some (true, .d (.s (.int .i64 (u s n))))
  | _ => none
theorem φIndexByte_ok : SpOK Tryd.prog 39 (φIndexByte (fun s n => Lib.indexByte s (UInt8.ofNat n.toNat))) := by
  intro xs b x h hb
  unfold φIndexByte at h
  split at h
  · simp only [Option.some.injEq, Prod.mk.injEq] at h
    obtain ⟨rfl, rfl⟩ := h
    exact IndexByteI_spec _ _
  · cases h

theorem Unhex_spec (w : List UInt8) : ESpec Tryd.prog 28 [.d (.s (.str w))] (fun x => x = .tup [.d (.s (.int .u64 (unhexV w))), .d (.s (.bool (unhexB w)))]) := by
  obtain ⟨uIndexByte, huIndexByte⟩ : ∃ u : List UInt8 → Int → Int, u = fun s n => Lib.indexByte s (UInt8.ofNat n.toNat) := ⟨_, rfl⟩
  have hG : TblOK Tryd.prog [(39, φIndexByte uIndexByte)] := ⟨(by rw [huIndexByte]; exact φIndexByte_ok), trivial⟩
  obtain ⟨zv, hzv⟩ : ∃ z, z = unhexV w := ⟨_, rfl⟩
  obtain ⟨zb, hzb⟩ : ∃ z, z = unhexB w := ⟨_, rfl⟩
  rw [← hzv, ← hzb]
  have bad : unhexB w = false → zv = 0 ∧ zb = false := fun h => by rw [hzv, hzb, h, unhexV, h]; exact ⟨rfl, rfl⟩
  have good : unhexB w = true → zv = (foldH w : Int) ∧ zb = true := fun h => by rw [hzv, hzb, h, unhexV, if_pos h]; exact ⟨rfl, rfl⟩
  unfold unhexB at bad good
  refine ESpec.enter Tryd.func28 (by kernel_rfl) rfl (Nat.le_of_ble_eq_true rfl) fun _ cx hnt hfr => ?_
  obtain ⟨F, hF⟩ := real_ex
  refine AK.runT hF tabOK hmix hnt hfr false _ hG ?_
  conv => arg 4; cbv
  refine AKt.node (fun hb0 => ?_) (fun hb0 => ?_)
  · have hl : ¬ w.length = 16 := by simp only [hF, f_ltI, f_leI, f_eqI, f_eqS, f_eqB, f_not, f_andB, f_orB, f_lenS, f_lenD, f_hasS, f_atS, f_hasC, f_subS, f_hasCat, f_app, f_wrap, f_add, f_sub, f_mul, f_appD, f_fits, f_hasV, f_subV, decide_eq_true_eq, decide_eq_false_iff_not, beq_iff_eq, beq_eq_false_iff_ne, Bool.and_eq_true, Bool.and_eq_false_iff, Bool.not_eq_true, Bool.not_eq_false, Bool.not_eq_eq_eq_not, Bool.not_true, Bool.not_false] at hb0; omega
    obtain ⟨g1, g2⟩ := bad (by rw [decide_eq_false hl]; rfl)
    repeat' (first | with_reducible refine AKt.have ?_ | with_reducible refine AKt.tt ?_ | with_reducible refine AKt.ff ?_ | with_reducible refine AKt.yes (by assumption) ?_ | with_reducible refine AKt.no (by assumption) ?_ | with_reducible refine AKt.node (fun hb => ?_) (fun hb => ?_) | with_reducible refine AKt.need ?_ (fun hb => ?_) | with_reducible refine AKt.leaf ?_ | ((with_reducible show _ = true); assumption))
    refine AKp.doneE tabOK hfr (by rfl) ?_
    show _ = _
    simp only [tupAV]
    rw [g1, g2]
  have hl : w.length = 16 := by simp only [hF, f_ltI, f_leI, f_eqI, f_eqS, f_eqB, f_not, f_andB, f_orB, f_lenS, f_lenD, f_hasS, f_atS, f_hasC, f_subS, f_hasCat, f_app, f_wrap, f_add, f_sub, f_mul, f_appD, f_fits, f_hasV, f_subV, decide_eq_true_eq, decide_eq_false_iff_not, beq_iff_eq, beq_eq_false_iff_ne, Bool.and_eq_true, Bool.and_eq_false_iff, Bool.not_eq_true, Bool.not_eq_false, Bool.not_eq_eq_eq_not, Bool.not_true, Bool.not_false] at hb0; omega
  rw [decide_eq_true hl, Bool.true_and] at bad good
  repeat' (first | with_reducible refine AKt.have ?_ | with_reducible refine AKt.tt ?_ | with_reducible refine AKt.ff ?_ | with_reducible refine AKt.yes (by assumption) ?_ | with_reducible refine AKt.no (by assumption) ?_ | with_reducible refine AKt.node (fun hb => ?_) (fun hb => ?_) | with_reducible refine AKt.need ?_ (fun hb => ?_) | with_reducible refine AKt.leaf ?_ | ((with_reducible show _ = true); assumption))
  refine AKp.enterLoop 13 ?_
  conv => arg 7; cbv
  refine AKl.invT hF tabOK hmix hnt hfr false _ hG (fun n vs hs => ∃ (i : Nat) (iv hv : Int), i + n = w.length ∧ iv = i ∧ hv = (foldH (w.take i) : Nat) ∧ (w.take i).all hexOK = true ∧ vs = [(12, .d (.s (.int .i64 iv))), (4, .d (.s (.int .u64 hv)))] ∧ hs = []) w.length ⟨0, _, 0, by omega, rfl, by simp [foldH], by simp, rfl, rfl⟩ (by repeat (first | exact True.intro | refine ⟨⟨rfl, rfl⟩, ?_⟩)) (by repeat (first | exact True.intro | refine ⟨⟨rfl, rfl, rfl⟩, ?_⟩)) ?_
  rintro J n vs hs hJ ⟨i, iv, hv, hi, hiv, hhv, hall, rfl, rfl⟩
  have hfl := foldH_lt i (by omega) hall
  conv => arg 4; cbv
  refine AKt.node (fun hb1 => ?_) (fun hb1 => ?_)
  · have hlt : i < w.length := by simp only [hF, f_ltI, f_leI, f_eqI, f_eqS, f_eqB, f_not, f_andB, f_orB, f_lenS, f_lenD, f_hasS, f_atS, f_hasC, f_subS, f_hasCat, f_app, f_wrap, f_add, f_sub, f_mul, f_appD, f_fits, f_hasV, f_subV, decide_eq_true_eq, decide_eq_false_iff_not, beq_iff_eq, beq_eq_false_iff_ne, Bool.and_eq_true, Bool.and_eq_false_iff, Bool.not_eq_true, Bool.not_eq_false, Bool.not_eq_eq_eq_not, Bool.not_true, Bool.not_false] at hb1; omega
    obtain ⟨c, hc⟩ : ∃ c, w[i]? = some c := ⟨_, List.getElem?_eq_getElem hlt⟩
    have hs := t_hasS hF hlt hiv
    have hu : uIndexByte [48, 49, 50, 51, 52, 53, 54, 55, 56, 57, 97, 98, 99, 100, 101, 102] c.toNat = if hexOK c = true then (hexV c : Int) else -1 := by
      subst huIndexByte
      show Lib.indexByte _ (UInt8.ofNat (c.toNat : Int).toNat) = _
      rw [Int.toNat_natCast, UInt8.ofNat_toNat]
      exact ib_hex c
    have hno := all_false (p := hexOK) hc
    have hyes := all_take_succ (p := hexOK) hc hall
    have hft := foldH_take hc
    rw [t_atS hF hc hiv]
    cases hok : hexOK c
    · rw [hok, if_neg (by simp)] at hu
      rw [hu]
      refine AKt.need hs fun _ => AKt.have ?_
      obtain ⟨g1, g2⟩ := bad (hno hok)
      rw [show F .ltI (-1) 0 = true by rw [hF]; rfl]
      refine AKt.tt ?_
      repeat' (first | with_reducible refine AKt.have ?_ | with_reducible refine AKt.tt ?_ | with_reducible refine AKt.ff ?_ | with_reducible refine AKt.yes (by assumption) ?_ | with_reducible refine AKt.no (by assumption) ?_ | with_reducible refine AKt.node (fun hb => ?_) (fun hb => ?_) | with_reducible refine AKt.need ?_ (fun hb => ?_) | with_reducible refine AKt.leaf ?_ | ((with_reducible show _ = true); assumption))
      refine AKp.doneE tabOK hfr (by rfl) ?_
      show _ = _
      simp only [tupAV]
      rw [g1, g2]
    · rw [hok, if_pos rfl] at hu
      have hv16 := hexV_lt hok
      obtain ⟨kv, hkv⟩ : ∃ z : Int, z = hexV c := ⟨_, rfl⟩
      rw [← hkv] at hu
      rw [hu]
      have hp : 16 ^ i ≤ 16 ^ 15 := Nat.pow_le_pow_right (by decide) (by omega)
      have h15 : foldH (w.take i) < 1152921504606846976 := Nat.lt_of_lt_of_le hfl hp
      refine AKt.need hs fun _ => AKt.have ?_
      rw [show F .ltI kv 0 = false by rw [hF, f_ltI]; exact decide_eq_false (by omega)]
      refine AKt.ff ?_
      obtain ⟨h2, hh2⟩ : ∃ z : Int, z = ((16 * foldH (w.take i) : Nat) : Int) := ⟨_, rfl⟩
      rw [show F .shl .u64 hv 4 = some h2 by
        rw [hF]
        show (if (4 : Int) < 0 then none else some (IntKind.u64.wrap (hv * 2 ^ (Min.min (4 : Int).toNat IntKind.u64.bits)))) = _
        rw [if_neg (by decide), show (2 : Int) ^ (Min.min (4 : Int).toNat IntKind.u64.bits) = 16 by decide, IntKind.wrap_u64, hh2, hhv]
        congr 1
        omega]
      conv => arg 4; cbv
      have e1 : F .wrap .u64 kv = kv := by
        rw [hF]
        show IntKind.u64.wrap kv = kv
        rw [IntKind.wrap_u64]
        omega
      have e2 : F .bits .or .u64 h2 kv = ((foldH (w.take (i + 1)) : Nat) : Int) := by
        rw [hF, hh2, hkv, hft]
        exact or16 _ _ hv16 h15
      rw [e1, e2]
      repeat' (first | with_reducible refine AKt.have ?_ | with_reducible refine AKt.tt ?_ | with_reducible refine AKt.ff ?_ | with_reducible refine AKt.yes (by assumption) ?_ | with_reducible refine AKt.no (by assumption) ?_ | with_reducible refine AKt.node (fun hb => ?_) (fun hb => ?_) | with_reducible refine AKt.need ?_ (fun hb => ?_) | with_reducible refine AKt.leaf ?_ | ((with_reducible show _ = true); assumption))
      refine AKp.again _ hfr (by repeat (first | exact True.intro | refine ⟨⟨rfl, rfl⟩, ?_⟩)) (by repeat (first | exact True.intro | refine ⟨⟨rfl, rfl, rfl⟩, ?_⟩)) (hJ (n - 1) _ _ (by omega) ⟨i + 1, _, _, by omega, inc_i hF hiv (by omega), rfl, hyes hok, rfl, rfl⟩)
  · have hge : ¬ i < w.length := by simp only [hF, f_ltI, f_leI, f_eqI, f_eqS, f_eqB, f_not, f_andB, f_orB, f_lenS, f_lenD, f_hasS, f_atS, f_hasC, f_subS, f_hasCat, f_app, f_wrap, f_add, f_sub, f_mul, f_appD, f_fits, f_hasV, f_subV, decide_eq_true_eq, decide_eq_false_iff_not, beq_iff_eq, beq_eq_false_iff_ne, Bool.and_eq_true, Bool.and_eq_false_iff, Bool.not_eq_true, Bool.not_eq_false, Bool.not_eq_eq_eq_not, Bool.not_true, Bool.not_false] at hb1; omega
    rw [List.take_of_length_le (by omega)] at hall hhv
    obtain ⟨g1, g2⟩ := good hall
    repeat' (first | with_reducible refine AKt.have ?_ | with_reducible refine AKt.tt ?_ | with_reducible refine AKt.ff ?_ | with_reducible refine AKt.yes (by assumption) ?_ | with_reducible refine AKt.no (by assumption) ?_ | with_reducible refine AKt.node (fun hb => ?_) (fun hb => ?_) | with_reducible refine AKt.need ?_ (fun hb => ?_) | with_reducible refine AKt.leaf ?_ | ((with_reducible show _ = true); assumption))
    refine AKp.doneE tabOK hfr (by rfl) ?_
    show _ = _
    simp only [tupAV]
    rw [g1, g2, hhv]

theorem RefUnhex_spec (w : List UInt8) : ESpec Tryd.prog 20 [.d (.s (.str w))] (fun x => x = .tup [.d (.s (.int .u64 (unhexV w))), .d (.s (.bool (unhexB w)))]) := by
  obtain ⟨zv, hzv⟩ : ∃ z, z = unhexV w := ⟨_, rfl⟩
  obtain ⟨zb, hzb⟩ : ∃ z, z = unhexB w := ⟨_, rfl⟩
  rw [← hzv, ← hzb]
  have bad : unhexB w = false → zv = 0 ∧ zb = false := fun h => by rw [hzv, hzb, h, unhexV, h]; exact ⟨rfl, rfl⟩
  have good : unhexB w = true → zv = (foldH w : Int) ∧ zb = true := fun h => by rw [hzv, hzb, h, unhexV, if_pos h]; exact ⟨rfl, rfl⟩
  unfold unhexB at bad good
  refine ESpec.enter Tryd.func20 (by kernel_rfl) rfl (Nat.le_of_ble_eq_true rfl) fun _ cx hnt hfr => ?_
  obtain ⟨F, hF⟩ := real_ex
  refine AK.runT hF tabOK hmix hnt hfr false [] trivial ?_
  conv => arg 4; cbv
  refine AKt.node (fun hb0 => ?_) (fun hb0 => ?_)
  · have hl : ¬ w.length = 16 := by simp only [hF, f_ltI, f_leI, f_eqI, f_eqS, f_eqB, f_not, f_andB, f_orB, f_lenS, f_lenD, f_hasS, f_atS, f_hasC, f_subS, f_hasCat, f_app, f_wrap, f_add, f_sub, f_mul, f_appD, f_fits, f_hasV, f_subV, decide_eq_true_eq, decide_eq_false_iff_not, beq_iff_eq, beq_eq_false_iff_ne, Bool.and_eq_true, Bool.and_eq_false_iff, Bool.not_eq_true, Bool.not_eq_false, Bool.not_eq_eq_eq_not, Bool.not_true, Bool.not_false] at hb0; omega
    obtain ⟨g1, g2⟩ := bad (by rw [decide_eq_false hl]; rfl)
    repeat' (first | with_reducible refine AKt.have ?_ | with_reducible refine AKt.tt ?_ | with_reducible refine AKt.ff ?_ | with_reducible refine AKt.yes (by assumption) ?_ | with_reducible refine AKt.no (by assumption) ?_ | with_reducible refine AKt.node (fun hb => ?_) (fun hb => ?_) | with_reducible refine AKt.need ?_ (fun hb => ?_) | with_reducible refine AKt.leaf ?_ | ((with_reducible show _ = true); assumption))
    refine AKp.doneE tabOK hfr (by rfl) ?_
    show _ = _
    simp only [tupAV]
    rw [g1, g2]
  have hl : w.length = 16 := by simp only [hF, f_ltI, f_leI, f_eqI, f_eqS, f_eqB, f_not, f_andB, f_orB, f_lenS, f_lenD, f_hasS, f_atS, f_hasC, f_subS, f_hasCat, f_app, f_wrap, f_add, f_sub, f_mul, f_appD, f_fits, f_hasV, f_subV, decide_eq_true_eq, decide_eq_false_iff_not, beq_iff_eq, beq_eq_false_iff_ne, Bool.and_eq_true, Bool.and_eq_false_iff, Bool.not_eq_true, Bool.not_eq_false, Bool.not_eq_eq_eq_not, Bool.not_true, Bool.not_false] at hb0; omega
  rw [decide_eq_true hl, Bool.true_and] at bad good
  repeat' (first | with_reducible refine AKt.have ?_ | with_reducible refine AKt.tt ?_ | with_reducible refine AKt.ff ?_ | with_reducible refine AKt.yes (by assumption) ?_ | with_reducible refine AKt.no (by assumption) ?_ | with_reducible refine AKt.node (fun hb => ?_) (fun hb => ?_) | with_reducible refine AKt.need ?_ (fun hb => ?_) | with_reducible refine AKt.leaf ?_ | ((with_reducible show _ = true); assumption))
  refine AKp.enterLoop 6 ?_
  conv => arg 7; cbv
  refine AKl.invT hF tabOK hmix hnt hfr false [] trivial (fun n vs hs => ∃ (i : Nat) (iv hv : Int), i + n = w.length ∧ iv = i ∧ hv = (foldH (w.take i) : Nat) ∧ (w.take i).all hexOK = true ∧ vs = [(5, .d (.s (.int .i64 iv))), (4, .d (.s (.int .u64 hv)))] ∧ hs = []) w.length ⟨0, _, 0, by omega, rfl, by simp [foldH], by simp, rfl, rfl⟩ (by repeat (first | exact True.intro | refine ⟨⟨rfl, rfl⟩, ?_⟩)) (by repeat (first | exact True.intro | refine ⟨⟨rfl, rfl, rfl⟩, ?_⟩)) ?_
  rintro J n vs hs hJ ⟨i, iv, hv, hi, hiv, hhv, hall, rfl, rfl⟩
  have hfl := foldH_lt i (by omega) hall
  conv => arg 4; cbv
  refine AKt.node (fun hb1 => ?_) (fun hb1 => ?_)
  · have hlt : i < w.length := by simp only [hF, f_ltI, f_leI, f_eqI, f_eqS, f_eqB, f_not, f_andB, f_orB, f_lenS, f_lenD, f_hasS, f_atS, f_hasC, f_subS, f_hasCat, f_app, f_wrap, f_add, f_sub, f_mul, f_appD, f_fits, f_hasV, f_subV, decide_eq_true_eq, decide_eq_false_iff_not, beq_iff_eq, beq_eq_false_iff_ne, Bool.and_eq_true, Bool.and_eq_false_iff, Bool.not_eq_true, Bool.not_eq_false, Bool.not_eq_eq_eq_not, Bool.not_true, Bool.not_false] at hb1; omega
    obtain ⟨c, hc⟩ : ∃ c, w[i]? = some c := ⟨_, List.getElem?_eq_getElem hlt⟩
    have hs := t_hasS hF hlt hiv
    have hno := all_false (p := hexOK) hc
    have hyes := all_take_succ (p := hexOK) hc hall
    have hft := foldH_take hc
    have hp : 16 ^ i ≤ 16 ^ 15 := Nat.pow_le_pow_right (by decide) (by omega)
    have h15 : foldH (w.take i) < 1152921504606846976 := Nat.lt_of_lt_of_le hfl hp
    have hc255 := UInt8.toNat_lt c
    have val : ∀ d : Nat, (d = 48 ∨ d = 87) → hexV c = c.toNat - d → d ≤ c.toNat → hexV c < 16 → F .wrap .u64 (F .sub (F .wrap .u64 (F .add (F .wrap .u64 (F .mul hv 16)) (F .wrap .u64 (c.toNat : Int)))) d) = ((foldH (w.take (i + 1)) : Nat) : Int) := by
      intro d hd hv1 hd2 hv16
      rw [hF, hft, hv1]
      show IntKind.u64.wrap (IntKind.u64.wrap (IntKind.u64.wrap (hv * 16) + IntKind.u64.wrap (c.toNat : Int)) - (d : Int)) = _
      simp only [IntKind.wrap_u64]
      omega
    rw [t_atS hF hc hiv]
    have ok : hexOK c = ((decide (48 ≤ (c.toNat : Int)) && decide ((c.toNat : Int) ≤ 57)) || (decide (97 ≤ (c.toNat : Int)) && decide ((c.toNat : Int) ≤ 102))) := by
      unfold hexOK
      rw [Bool.eq_iff_iff]
      simp only [Bool.or_eq_true, Bool.and_eq_true, decide_eq_true_eq]
      omega
    repeat' (first | with_reducible refine AKt.have ?_ | with_reducible refine AKt.tt ?_ | with_reducible refine AKt.ff ?_ | with_reducible refine AKt.yes (by assumption) ?_ | with_reducible refine AKt.no (by assumption) ?_ | with_reducible refine AKt.node (fun hb => ?_) (fun hb => ?_) | with_reducible refine AKt.need ?_ (fun hb => ?_) | with_reducible refine AKt.leaf ?_ | ((with_reducible show _ = true); assumption))
    all_goals first
      | (have h1 := ‹F .leI 48 (c.toNat : Int) = true›
         have h2 := ‹F .leI (c.toNat : Int) 57 = true›
         rw [show F .wrap .u64 (F .sub (F .wrap .u64 (F .add (F .wrap .u64 (F .mul hv 16)) (F .wrap .u64 (c.toNat : Int)))) 48) = ((foldH (w.take (i + 1)) : Nat) : Int) from val 48 (.inl rfl) (by simp only [hF, f_ltI, f_leI, f_eqI, f_eqS, f_eqB, f_not, f_andB, f_orB, f_lenS, f_lenD, f_hasS, f_atS, f_hasC, f_subS, f_hasCat, f_app, f_wrap, f_add, f_sub, f_mul, f_appD, f_fits, f_hasV, f_subV, decide_eq_true_eq, decide_eq_false_iff_not, beq_iff_eq, beq_eq_false_iff_ne, Bool.and_eq_true, Bool.and_eq_false_iff, Bool.not_eq_true, Bool.not_eq_false, Bool.not_eq_eq_eq_not, Bool.not_true, Bool.not_false] at h1 h2; unfold hexV; rw [if_pos (by omega)]) (by simp only [hF, f_ltI, f_leI, f_eqI, f_eqS, f_eqB, f_not, f_andB, f_orB, f_lenS, f_lenD, f_hasS, f_atS, f_hasC, f_subS, f_hasCat, f_app, f_wrap, f_add, f_sub, f_mul, f_appD, f_fits, f_hasV, f_subV, decide_eq_true_eq, decide_eq_false_iff_not, beq_iff_eq, beq_eq_false_iff_ne, Bool.and_eq_true, Bool.and_eq_false_iff, Bool.not_eq_true, Bool.not_eq_false, Bool.not_eq_eq_eq_not, Bool.not_true, Bool.not_false] at h1; omega) (by simp only [hF, f_ltI, f_leI, f_eqI, f_eqS, f_eqB, f_not, f_andB, f_orB, f_lenS, f_lenD, f_hasS, f_atS, f_hasC, f_subS, f_hasCat, f_app, f_wrap, f_add, f_sub, f_mul, f_appD, f_fits, f_hasV, f_subV, decide_eq_true_eq, decide_eq_false_iff_not, beq_iff_eq, beq_eq_false_iff_ne, Bool.and_eq_true, Bool.and_eq_false_iff, Bool.not_eq_true, Bool.not_eq_false, Bool.not_eq_eq_eq_not, Bool.not_true, Bool.not_false] at h1 h2; unfold hexV; rw [if_pos (by omega)]; omega)]
         exact AKp.again _ hfr (by repeat (first | exact True.intro | refine ⟨⟨rfl, rfl⟩, ?_⟩)) (by repeat (first | exact True.intro | refine ⟨⟨rfl, rfl, rfl⟩, ?_⟩)) (hJ (n - 1) _ _ (by omega) ⟨i + 1, _, _, by omega, inc_i hF hiv (by omega), rfl, hyes (by simp only [hF, f_ltI, f_leI, f_eqI, f_eqS, f_eqB, f_not, f_andB, f_orB, f_lenS, f_lenD, f_hasS, f_atS, f_hasC, f_subS, f_hasCat, f_app, f_wrap, f_add, f_sub, f_mul, f_appD, f_fits, f_hasV, f_subV, decide_eq_true_eq, decide_eq_false_iff_not, beq_iff_eq, beq_eq_false_iff_ne, Bool.and_eq_true, Bool.and_eq_false_iff, Bool.not_eq_true, Bool.not_eq_false, Bool.not_eq_eq_eq_not, Bool.not_true, Bool.not_false] at h1 h2; rw [ok]; simp [h1, h2]), rfl, rfl⟩))
      | (have h1 := ‹F .leI 97 (c.toNat : Int) = true›
         have h2 := ‹F .leI (c.toNat : Int) 102 = true›
         rw [show F .wrap .u64 (F .sub (F .wrap .u64 (F .add (F .wrap .u64 (F .mul hv 16)) (F .wrap .u64 (c.toNat : Int)))) 87) = ((foldH (w.take (i + 1)) : Nat) : Int) from val 87 (.inr rfl) (by simp only [hF, f_ltI, f_leI, f_eqI, f_eqS, f_eqB, f_not, f_andB, f_orB, f_lenS, f_lenD, f_hasS, f_atS, f_hasC, f_subS, f_hasCat, f_app, f_wrap, f_add, f_sub, f_mul, f_appD, f_fits, f_hasV, f_subV, decide_eq_true_eq, decide_eq_false_iff_not, beq_iff_eq, beq_eq_false_iff_ne, Bool.and_eq_true, Bool.and_eq_false_iff, Bool.not_eq_true, Bool.not_eq_false, Bool.not_eq_eq_eq_not, Bool.not_true, Bool.not_false] at h1 h2; unfold hexV; rw [if_neg (by omega)]) (by simp only [hF, f_ltI, f_leI, f_eqI, f_eqS, f_eqB, f_not, f_andB, f_orB, f_lenS, f_lenD, f_hasS, f_atS, f_hasC, f_subS, f_hasCat, f_app, f_wrap, f_add, f_sub, f_mul, f_appD, f_fits, f_hasV, f_subV, decide_eq_true_eq, decide_eq_false_iff_not, beq_iff_eq, beq_eq_false_iff_ne, Bool.and_eq_true, Bool.and_eq_false_iff, Bool.not_eq_true, Bool.not_eq_false, Bool.not_eq_eq_eq_not, Bool.not_true, Bool.not_false] at h1; omega) (by simp only [hF, f_ltI, f_leI, f_eqI, f_eqS, f_eqB, f_not, f_andB, f_orB, f_lenS, f_lenD, f_hasS, f_atS, f_hasC, f_subS, f_hasCat, f_app, f_wrap, f_add, f_sub, f_mul, f_appD, f_fits, f_hasV, f_subV, decide_eq_true_eq, decide_eq_false_iff_not, beq_iff_eq, beq_eq_false_iff_ne, Bool.and_eq_true, Bool.and_eq_false_iff, Bool.not_eq_true, Bool.not_eq_false, Bool.not_eq_eq_eq_not, Bool.not_true, Bool.not_false] at h1 h2; unfold hexV; rw [if_neg (by omega)]; omega)]
         exact AKp.again _ hfr (by repeat (first | exact True.intro | refine ⟨⟨rfl, rfl⟩, ?_⟩)) (by repeat (first | exact True.intro | refine ⟨⟨rfl, rfl, rfl⟩, ?_⟩)) (hJ (n - 1) _ _ (by omega) ⟨i + 1, _, _, by omega, inc_i hF hiv (by omega), rfl, hyes (by simp only [hF, f_ltI, f_leI, f_eqI, f_eqS, f_eqB, f_not, f_andB, f_orB, f_lenS, f_lenD, f_hasS, f_atS, f_hasC, f_subS, f_hasCat, f_app, f_wrap, f_add, f_sub, f_mul, f_appD, f_fits, f_hasV, f_subV, decide_eq_true_eq, decide_eq_false_iff_not, beq_iff_eq, beq_eq_false_iff_ne, Bool.and_eq_true, Bool.and_eq_false_iff, Bool.not_eq_true, Bool.not_eq_false, Bool.not_eq_eq_eq_not, Bool.not_true, Bool.not_false] at h1 h2; rw [ok]; simp [h1, h2]), rfl, rfl⟩))
      | (refine AKp.doneE tabOK hfr (by rfl) ?_
         show _ = _
         simp only [tupAV]
         have hbad : hexOK c = false := by
           clear hJ hno hyes
           rw [ok]
           simp only [hF, f_ltI, f_leI, f_eqI, f_eqS, f_eqB, f_not, f_andB, f_orB, f_lenS, f_lenD, f_hasS, f_atS, f_hasC, f_subS, f_hasCat, f_app, f_wrap, f_add, f_sub, f_mul, f_appD, f_fits, f_hasV, f_subV, decide_eq_true_eq, decide_eq_false_iff_not, beq_iff_eq, beq_eq_false_iff_ne, Bool.and_eq_true, Bool.and_eq_false_iff, Bool.not_eq_true, Bool.not_eq_false, Bool.not_eq_eq_eq_not, Bool.not_true, Bool.not_false] at *
           grind
         obtain ⟨g1, g2⟩ := bad (hno hbad)
         rw [g1, g2])
  · have hge : ¬ i < w.length := by simp only [hF, f_ltI, f_leI, f_eqI, f_eqS, f_eqB, f_not, f_andB, f_orB, f_lenS, f_lenD, f_hasS, f_atS, f_hasC, f_subS, f_hasCat, f_app, f_wrap, f_add, f_sub, f_mul, f_appD, f_fits, f_hasV, f_subV, decide_eq_true_eq, decide_eq_false_iff_not, beq_iff_eq, beq_eq_false_iff_ne, Bool.and_eq_true, Bool.and_eq_false_iff, Bool.not_eq_true, Bool.not_eq_false, Bool.not_eq_eq_eq_not, Bool.not_true, Bool.not_false] at hb1; omega
    rw [List.take_of_length_le (by omega)] at hall hhv
    obtain ⟨g1, g2⟩ := good hall
    repeat' (first | with_reducible refine AKt.have ?_ | with_reducible refine AKt.tt ?_ | with_reducible refine AKt.ff ?_ | with_reducible refine AKt.yes (by assumption) ?_ | with_reducible refine AKt.no (by assumption) ?_ | with_reducible refine AKt.node (fun hb => ?_) (fun hb => ?_) | with_reducible refine AKt.need ?_ (fun hb => ?_) | with_reducible refine AKt.leaf ?_ | ((with_reducible show _ = true); assumption))
    refine AKp.doneE tabOK hfr (by rfl) ?_
    show _ = _
    simp only [tupAV]
    rw [g1, g2, hhv]
def φUnhex (u : List UInt8 → Int) (v : List UInt8 → Bool) : List AV → Option (Bool × AV)
  | [.d (.s (.str w))] => some (true, .tup [.d (.s (.int .u64 (u w))), .d (.s (.bool (v w)))])
  | _ => none
theorem φUnhex_ok : SpOK Tryd.prog 28 (φUnhex (unhexV) (unhexB)) := by
  intro xs b x h hb
  unfold φUnhex at h
  split at h
  · simp only [Option.some.injEq, Prod.mk.injEq] at h
    obtain ⟨rfl, rfl⟩ := h
    exact Unhex_spec _
  · cases h
def φRefUnhex (u : List UInt8 → Int) (v : List UInt8 → Bool) : List AV → Option (Bool × AV)
  | [.d (.s (.str w))] => some (true, .tup [.d (.s (.int .u64 (u w))), .d (.s (.bool (v w)))])
  | _ => none
theorem φRefUnhex_ok : SpOK Tryd.prog 20 (φRefUnhex (unhexV) (unhexB)) := by
  intro xs b x h hb
  unfold φRefUnhex at h
  split at h
  · simp only [Option.some.injEq, Prod.mk.injEq] at h
    obtain ⟨rfl, rfl⟩ := h
    exact RefUnhex_spec _
  · cases h
end Go.Proofs.YtpoebpggapfooaaDoor

/- Digits in order: plain laws. -/
namespace Go.Proofs.YtpoebpggapfooaaDoor
open Go Go.Proofs Go.Ua Go.Extern
set_option linter.unusedVariables false
set_option linter.unusedSimpArgs false

theorem asymm8 : ∀ {x y : List UInt8}, x < y → ¬ y < x
  | [], [], h => absurd h (by simp)
  | [], _ :: _, _ => by simp
  | _ :: _, [], h => absurd h (by simp)
  | a :: x, b :: y, h => by
    rw [List.cons_lt_cons_iff] at h ⊢
    rintro (h2 | ⟨rfl, h2⟩)
    · rcases h with h | ⟨rfl, _⟩
      · rw [UInt8.lt_iff_toNat_lt] at h h2; omega
      · rw [UInt8.lt_iff_toNat_lt] at h2; omega
    · rcases h with h | ⟨_, h⟩
      · rw [UInt8.lt_iff_toNat_lt] at h; omega
      · exact asymm8 h h2

theorem snoc_lt : ∀ {x y : List UInt8} {c d : UInt8}, x.length = y.length → ((x ++ [c]) < (y ++ [d]) ↔ x < y ∨ (x = y ∧ c < d))
  | [], [], c, d, _ => by simp [List.cons_lt_cons_iff]
  | [], _ :: _, _, _, h => by simp at h
  | _ :: _, [], _, _, h => by simp at h
  | a :: x, b :: y, c, d, h => by
    have ih := snoc_lt (x := x) (y := y) (c := c) (d := d) (by simpa using h)
    simp only [List.cons_append, List.cons_lt_cons_iff, ih, List.cons.injEq]
    constructor
    · rintro (g | ⟨rfl, g | ⟨rfl, g⟩⟩)
      · exact .inl (.inl g)
      · exact .inl (.inr ⟨rfl, g⟩)
      · exact .inr ⟨⟨rfl, rfl⟩, g⟩
    · rintro ((g | ⟨rfl, g⟩) | ⟨⟨rfl, rfl⟩, g⟩)
      · exact .inl g
      · exact .inr ⟨rfl, .inl g⟩
      · exact .inr ⟨rfl, .inr ⟨rfl, g⟩⟩

def before (a b : List UInt8) : Prop := a.length < b.length ∨ (a.length = b.length ∧ a < b)

theorem dig_small {n : Nat} (h : n < 10) : Lib.decDigits n = [UInt8.ofNat (48 + n)] := by rw [Lib.decDigits, dif_pos h]
theorem dig_big {n : Nat} (h : ¬ n < 10) : Lib.decDigits n = Lib.decDigits (n / 10) ++ [UInt8.ofNat (48 + n % 10)] := by rw [Lib.decDigits, dif_neg h]
theorem dig_pos (n : Nat) : 1 ≤ (Lib.decDigits n).length := by
  by_cases h : n < 10
  · rw [dig_small h]; simp
  · rw [dig_big h]; simp
theorem d8_lt {a b : Nat} (ha : a < 10) (hb : b < 10) : UInt8.ofNat (48 + a) < UInt8.ofNat (48 + b) ↔ a < b := by
  rw [UInt8.lt_iff_toNat_lt]
  simp
  omega

theorem before_of_lt : ∀ (m n : Nat), n < m → before (Lib.decDigits n) (Lib.decDigits m) := by
  intro m
  induction m using Nat.strongRecOn with
  | _ m ih =>
    intro n h
    by_cases hm : m < 10
    · have hn : n < 10 := by omega
      rw [dig_small hm, dig_small hn]
      refine .inr ⟨rfl, ?_⟩
      rw [List.cons_lt_cons_iff]
      exact .inl ((d8_lt hn hm).2 h)
    · rw [dig_big hm]
      by_cases hn : n < 10
      · rw [dig_small hn]
        refine .inl ?_
        have := dig_pos (m / 10)
        simp; omega
      · rw [dig_big hn]
        rcases Nat.lt_or_ge (n / 10) (m / 10) with h1 | h1
        · rcases ih (m / 10) (by omega) (n / 10) h1 with h2 | ⟨h2, h3⟩
          · exact .inl (by simp; omega)
          · exact .inr ⟨by simp [h2], (snoc_lt h2).2 (.inl h3)⟩
        · have e : n / 10 = m / 10 := by omega
          rw [e]
          exact .inr ⟨by simp, (snoc_lt rfl).2 (.inr ⟨rfl, (d8_lt (by omega) (by omega)).2 (by omega)⟩)⟩

theorem before_asymm {a b : List UInt8} (h : before a b) : ¬ before b a := by
  rintro (h2 | ⟨h2, h3⟩)
  · rcases h with h | ⟨h, _⟩ <;> omega
  · rcases h with h | ⟨_, h⟩
    · omega
    · exact asymm8 h h3
theorem before_irrefl (a : List UInt8) : ¬ before a a := fun h => before_asymm h h

theorem before_iff (n m : Nat) : n < m ↔ before (Lib.decDigits n) (Lib.decDigits m) := by
  refine ⟨before_of_lt m n, fun h => ?_⟩
  rcases Nat.lt_trichotomy n m with h1 | h1 | h1
  · exact h1
  · subst h1; exact absurd h (before_irrefl _)
  · exact absurd h (before_asymm (before_of_lt n m h1))
theorem dig_inj {n m : Nat} (h : Lib.decDigits n = Lib.decDigits m) : n = m := by
  rcases Nat.lt_trichotomy n m with h1 | h1 | h1
  · have := before_of_lt m n h1; rw [h] at this; exact absurd this (before_irrefl _)
  · exact h1
  · have := before_of_lt n m h1; rw [h] at this; exact absurd this (before_irrefl _)
end Go.Proofs.YtpoebpggapfooaaDoor

/- Numbers and their digits: plain laws; the reference's numbers. -/
namespace Go.Proofs.YtpoebpggapfooaaDoor
open Go Go.Proofs Go.Ua Go.Extern
set_option linter.unusedVariables false
set_option linter.unusedSimpArgs false

theorem valN_snoc (p : List UInt8) (c : UInt8) : valN (p ++ [c]) = 10 * valN p + (c.toNat - 48) := by simp [valN, List.foldl_append]
theorem dig_byte {d : Nat} (h : d < 10) : (UInt8.ofNat (48 + d)).toNat = 48 + d := by rw [UInt8.toNat_ofNat']; omega
theorem dig_head : ∀ n : Nat, 1 ≤ n → ∃ c r, Lib.decDigits n = c :: r ∧ c ≠ 48
  | n, h => by
    by_cases hs : n < 10
    · refine ⟨_, _, dig_small hs, fun e => ?_⟩
      have := congrArg UInt8.toNat e
      rw [dig_byte hs] at this
      simp at this; omega
    · obtain ⟨c, r, h1, h2⟩ := dig_head (n / 10) (by omega)
      rw [dig_big hs, h1]
      exact ⟨c, r ++ [UInt8.ofNat (48 + n % 10)], rfl, h2⟩
theorem dig_val : ∀ n : Nat, valN (Lib.decDigits n) = n
  | n => by
    by_cases hs : n < 10
    · rw [dig_small hs]
      simp only [valN, List.foldl_cons, List.foldl_nil]
      rw [dig_byte hs]; omega
    · have ih := dig_val (n / 10)
      rw [dig_big hs, valN_snoc, ih, dig_byte (Nat.mod_lt _ (by decide))]
      omega
theorem dig_all : ∀ n : Nat, (Lib.decDigits n).all digB = true
  | n => by
    by_cases hs : n < 10
    · rw [dig_small hs]
      simp only [List.all_cons, List.all_nil, Bool.and_true]
      unfold digB digitN
      rw [dig_byte hs, decide_eq_true (by omega), decide_eq_true (by omega)]; rfl
    · have ih := dig_all (n / 10)
      rw [dig_big hs, List.all_append, ih]
      simp only [List.all_cons, List.all_nil, Bool.and_true, Bool.true_and]
      unfold digB digitN
      rw [dig_byte (Nat.mod_lt _ (by decide)), decide_eq_true (by omega), decide_eq_true (by omega)]; rfl
theorem dig_len : ∀ (k n : Nat), n < 10 ^ (k + 1) → (Lib.decDigits n).length ≤ k + 1
  | 0, n, h => by rw [dig_small h]; simp
  | k + 1, n, h => by
    have h : n < 10 ^ (k + 1) * 10 := h
    by_cases hs : n < 10
    · rw [dig_small hs]; simp
    · have := dig_len k (n / 10) (by omega)
      rw [dig_big hs]
      simp; omega
/-- Digits that don't begin with a needless 0 are the digits of their number. -/
theorem val_dig {w : List UInt8} (h0 : w ≠ []) (hall : w.all digB = true) (hlead : 1 < w.length → w[0]? ≠ some 48) : Lib.decDigits (valN w) = w := by
  induction hn : w.length using Nat.strongRecOn generalizing w with
  | _ k ih =>
    obtain ⟨p, c, rfl⟩ : ∃ p c, w = p ++ [c] := ⟨w.dropLast, w.getLast h0, (List.dropLast_concat_getLast h0).symm⟩
    simp only [List.all_append, List.all_cons, List.all_nil, Bool.and_true, Bool.and_eq_true] at hall
    have hd := digB_le hall.2
    rw [valN_snoc]
    have hc : UInt8.ofNat (48 + (c.toNat - 48)) = c := by
      rw [show 48 + (c.toNat - 48) = c.toNat by omega, UInt8.ofNat_toNat]
    by_cases hp : p = []
    · subst hp
      rw [show valN [] = 0 from rfl, dig_small (by omega)]
      simp only [Nat.mul_zero, Nat.zero_add, List.nil_append]
      rw [hc]
    · have hlen : 1 < (p ++ [c]).length := by
        have := List.length_pos_iff.2 hp
        simp; omega
      have hl := hlead hlen
      rw [List.getElem?_append_left (List.length_pos_iff.2 hp)] at hl
      have := ih p.length (by simp at hn; omega) (w := p) hp hall.1 (fun _ => hl) rfl
      have hpos : 1 ≤ valN p := by
        rcases Nat.eq_zero_or_pos (valN p) with e | e
        · rw [e, dig_small (by decide)] at this
          rw [← this] at hl
          exact absurd rfl hl
        · exact e
      rw [dig_big (by omega), show (10 * valN p + (c.toNat - 48)) / 10 = valN p by omega, show (10 * valN p + (c.toNat - 48)) % 10 = c.toNat - 48 by omega, this, hc]
theorem num_dig {w : List UInt8} (hall : w.all digB = true) (h9 : w.length ≤ 9) : numForm w = decide (Lib.decDigits (valN w) = w) := by
  rw [Bool.eq_iff_iff, decide_eq_true_eq]
  unfold numForm
  constructor
  · intro h
    simp only [Bool.and_eq_true, decide_eq_true_eq, Bool.not_eq_true', Bool.and_eq_false_iff, decide_eq_false_iff_not] at h
    refine val_dig (by rintro rfl; simp at h) hall fun h1 => ?_
    rcases h.1.2 with h2 | h2
    · exact absurd h1 h2
    · exact h2
  · intro h
    have hp := dig_pos (valN w)
    rw [h] at hp
    rw [decide_eq_true hp, decide_eq_true h9, hall]
    simp only [Bool.true_and, Bool.and_true, Bool.not_eq_true', Bool.and_eq_false_iff, decide_eq_false_iff_not]
    by_cases h1 : 1 < w.length
    · right
      intro h2
      have hv : 1 ≤ valN w := by
        rcases Nat.eq_zero_or_pos (valN w) with e | e
        · rw [e, dig_small (by decide)] at h
          rw [← h] at h1
          exact absurd h1 (by simp)
        · exact e
      obtain ⟨c, r, h3, h4⟩ := dig_head _ hv
      rw [← h, h3] at h2
      exact h4 (Option.some.inj h2)
    · exact .inl h1
theorem num_of_dig {n : Nat} (h : n ≤ 999999999) : numForm (Lib.decDigits n) = true := by
  rw [num_dig (dig_all n) (dig_len 8 n (by omega)), dig_val]
  exact decide_eq_true rfl
end Go.Proofs.YtpoebpggapfooaaDoor

/- The reference's digits and numbers. -/
namespace Go.Proofs.YtpoebpggapfooaaDoor
open Go Go.Proofs Go.Ua Go.Extern
set_option linter.unusedVariables false
set_option linter.unusedSimpArgs false
set_option maxRecDepth 10000

theorem t_digit {F : Fam} (hF : F = Fam.real) {k : Nat} {v : Int} (hv : v = k) (hk : k < 10) :
    F .hasStr [.s (.int .u8 (F .wrap .u8 (F .wrap .i64 (F .add 48 v))))] = true ∧ F .ofStr [.s (.int .u8 (F .wrap .u8 (F .wrap .i64 (F .add 48 v))))] = [UInt8.ofNat (48 + k)] := by
  have h := l_digit hF hv hk
  rw [hF] at h ⊢
  rw [f_hasStr, f_ofStr]
  have h : strOf [.s (.int .u8 (Fam.real .wrap .u8 (Fam.real .wrap .i64 (Fam.real .add 48 v))))] = some [UInt8.ofNat (48 + k)] := h
  rw [h]
  exact ⟨rfl, rfl⟩

theorem RefDigitsI_spec (n : Int) : ESpec Tryd.prog 13 [.d (.s (.int .i64 n))] (fun x => x = .d (.s (.str (Lib.decDigits n.toNat)))) := by
  obtain ⟨D, hD⟩ : ∃ z, z = Lib.decDigits n.toNat := ⟨_, rfl⟩
  rw [← hD]
  refine ESpec.enter Tryd.func13 (by kernel_rfl) rfl (Nat.le_of_ble_eq_true rfl) fun hok cx hnt hfr => ?_
  obtain ⟨F, hF⟩ := real_ex
  refine AK.runT hF tabOK hmix hnt hfr true [] trivial ?_
  conv => arg 4; cbv
  have hok1 : n ≤ 9223372036854775807 := hok.1.2
  have hDl : D.length ≤ 21 := by rw [hD]; exact decDigits_le _ (by omega)
  have start : ∀ (kv : Int), (F .ltI n 0 = true → kv = 0) → (F .ltI n 0 = false → kv = n) → kv = (n.toNat : Int) := fun kv h1 h2 => by
    cases h : F .ltI n 0
    · rw [h2 h]; simp only [hF, f_ltI, f_leI, f_eqI, f_eqS, f_eqB, f_not, f_andB, f_orB, f_lenS, f_lenD, f_hasS, f_atS, f_hasC, f_subS, f_hasCat, f_app, f_wrap, f_add, f_sub, f_mul, f_appD, f_fits, f_hasV, f_subV, decide_eq_true_eq, decide_eq_false_iff_not, beq_iff_eq, beq_eq_false_iff_ne, Bool.and_eq_true, Bool.and_eq_false_iff, Bool.not_eq_true, Bool.not_eq_false, Bool.not_eq_eq_eq_not, Bool.not_true, Bool.not_false] at h; omega
    · rw [h1 h]; simp only [hF, f_ltI, f_leI, f_eqI, f_eqS, f_eqB, f_not, f_andB, f_orB, f_lenS, f_lenD, f_hasS, f_atS, f_hasC, f_subS, f_hasCat, f_app, f_wrap, f_add, f_sub, f_mul, f_appD, f_fits, f_hasV, f_subV, decide_eq_true_eq, decide_eq_false_iff_not, beq_iff_eq, beq_eq_false_iff_ne, Bool.and_eq_true, Bool.and_eq_false_iff, Bool.not_eq_true, Bool.not_eq_false, Bool.not_eq_eq_eq_not, Bool.not_true, Bool.not_false] at h; omega
  refine AKt.node (fun hb0 => ?_) (fun hb0 => ?_)
  case' refine_1 => have hst := start 0 (fun _ => rfl) (fun h => by rw [hb0] at h; cases h)
  case' refine_2 => have hst := start n (fun h => by rw [hb0] at h; cases h) (fun _ => rfl)
  all_goals
    clear start
    repeat' (first | with_reducible refine AKt.have ?_ | with_reducible refine AKt.tt ?_ | with_reducible refine AKt.ff ?_ | with_reducible refine AKt.yes (by assumption) ?_ | with_reducible refine AKt.no (by assumption) ?_ | with_reducible refine AKt.node (fun hb => ?_) (fun hb => ?_) | with_reducible refine AKt.need ?_ (fun hb => ?_) | with_reducible refine AKt.leaf ?_ | ((with_reducible show _ = true); assumption))
    refine AKp.enterLoop 0 ?_
    conv => arg 7; cbv
    refine AKl.invT hF tabOK hmix hnt hfr true [] trivial (fun m vs hs => ∃ (k : Nat) (kv : Int) (s : List UInt8), k = m ∧ kv = k ∧ k ≤ 9223372036854775807 ∧ D = Lib.decDigits k ++ s ∧ vs = [(0, .d (.s (.int .i64 kv))), (3, .d (.s (.str s)))] ∧ hs = []) n.toNat ⟨n.toNat, _, [], rfl, hst, by omega, by simp [hD], rfl, rfl⟩ (by repeat (first | exact True.intro | refine ⟨⟨rfl, rfl⟩, ?_⟩)) (by repeat (first | exact True.intro | refine ⟨⟨rfl, rfl, rfl⟩, ?_⟩)) ?_
    rintro J m vs hs hJ ⟨k, kv, s, rfl, hkv, hk, hd, rfl, rfl⟩
    have hsl : s.length ≤ 21 := by rw [hd] at hDl; simp at hDl; omega
    have hr : F .tmod kv 10 = ((k % 10 : Nat) : Int) := l_rem10 hF hkv
    obtain ⟨rv, hrv⟩ : ∃ z : Int, z = ((k % 10 : Nat) : Int) := ⟨_, rfl⟩
    rw [← hrv] at hr
    conv => arg 4; cbv
    rw [hr]
    refine AKt.node (fun hb1 => ?_) (fun hb1 => ?_)
    · have hlt : ¬ k < 10 := by simp only [hF, f_ltI, f_leI, f_eqI, f_eqS, f_eqB, f_not, f_andB, f_orB, f_lenS, f_lenD, f_hasS, f_atS, f_hasC, f_subS, f_hasCat, f_app, f_wrap, f_add, f_sub, f_mul, f_appD, f_fits, f_hasV, f_subV, decide_eq_true_eq, decide_eq_false_iff_not, beq_iff_eq, beq_eq_false_iff_ne, Bool.and_eq_true, Bool.and_eq_false_iff, Bool.not_eq_true, Bool.not_eq_false, Bool.not_eq_eq_eq_not, Bool.not_true, Bool.not_false] at hb1; omega
      obtain ⟨g1, g2⟩ := t_digit hF hrv (Nat.mod_lt k (by decide))
      rw [g2, l_div10 hF hkv hk]
      have hca : F .hasCat [UInt8.ofNat (48 + k % 10)] s = true := t_hasCat hF (by simp; omega)
      have hap : F .app [UInt8.ofNat (48 + k % 10)] s = UInt8.ofNat (48 + k % 10) :: s := by rw [hF]; rfl
      rw [hap]
      repeat' (first | with_reducible refine AKt.have ?_ | with_reducible refine AKt.tt ?_ | with_reducible refine AKt.ff ?_ | with_reducible refine AKt.yes (by assumption) ?_ | with_reducible refine AKt.no (by assumption) ?_ | with_reducible refine AKt.node (fun hb => ?_) (fun hb => ?_) | with_reducible refine AKt.need ?_ (fun hb => ?_) | with_reducible refine AKt.leaf ?_ | ((with_reducible show _ = true); assumption))
      refine AKp.again _ hfr (by repeat (first | exact True.intro | refine ⟨⟨rfl, rfl⟩, ?_⟩)) (by repeat (first | exact True.intro | refine ⟨⟨rfl, rfl, rfl⟩, ?_⟩)) (hJ (k / 10) _ _ (by omega) ⟨k / 10, _, _, rfl, rfl, by omega, by rw [hd, dig_big hlt]; simp, rfl, rfl⟩)
    · have hlt : k < 10 := by simp only [hF, f_ltI, f_leI, f_eqI, f_eqS, f_eqB, f_not, f_andB, f_orB, f_lenS, f_lenD, f_hasS, f_atS, f_hasC, f_subS, f_hasCat, f_app, f_wrap, f_add, f_sub, f_mul, f_appD, f_fits, f_hasV, f_subV, decide_eq_true_eq, decide_eq_false_iff_not, beq_iff_eq, beq_eq_false_iff_ne, Bool.and_eq_true, Bool.and_eq_false_iff, Bool.not_eq_true, Bool.not_eq_false, Bool.not_eq_eq_eq_not, Bool.not_true, Bool.not_false] at hb1; omega
      obtain ⟨g1, g2⟩ := t_digit hF hkv hlt
      have hca : F .hasCat [UInt8.ofNat (48 + k)] s = true := t_hasCat hF (by simp; omega)
      have hap : F .app [UInt8.ofNat (48 + k)] s = UInt8.ofNat (48 + k) :: s := by rw [hF]; rfl
      rw [g2, hap]
      repeat' (first | with_reducible refine AKt.have ?_ | with_reducible refine AKt.tt ?_ | with_reducible refine AKt.ff ?_ | with_reducible refine AKt.yes (by assumption) ?_ | with_reducible refine AKt.no (by assumption) ?_ | with_reducible refine AKt.node (fun hb => ?_) (fun hb => ?_) | with_reducible refine AKt.need ?_ (fun hb => ?_) | with_reducible refine AKt.leaf ?_ | ((with_reducible show _ = true); assumption))
      refine AKp.doneE tabOK hfr (by rfl) ?_
      show _ = _
      simp only [tupAV]
      rw [hd, dig_small hlt]
      rfl
def φRefDigits (u : Int → List UInt8) : List AV → Option (Bool × AV)
  | [.d (.s (.int .i64 n))] => some (true, .d (.s (.str (u n))))
  | _ => none
theorem φRefDigits_ok : SpOK Tryd.prog 13 (φRefDigits (fun n => Lib.decDigits n.toNat)) := by
  intro xs b x h hb
  unfold φRefDigits at h
  split at h
  · simp only [Option.some.injEq, Prod.mk.injEq] at h
    obtain ⟨rfl, rfl⟩ := h
    exact RefDigitsI_spec _
  · cases h

theorem RefNumber_spec (w : List UInt8) (least most : Int) : ESpec Tryd.prog 19 [.d (.s (.str w)), .d (.s (.int .i64 least)), .d (.s (.int .i64 most))] (fun x => x = .tup [.d (.s (.int .i64 (numV w least most))), .d (.s (.bool (numB w least most)))]) := by
  obtain ⟨uRefDigits, huRefDigits⟩ : ∃ u : Int → List UInt8, u = fun n => Lib.decDigits n.toNat := ⟨_, rfl⟩
  have hG : TblOK Tryd.prog [(13, φRefDigits uRefDigits)] := ⟨(by rw [huRefDigits]; exact φRefDigits_ok), trivial⟩
  obtain ⟨zv, hzv⟩ : ∃ z, z = numV w least most := ⟨_, rfl⟩
  obtain ⟨zb, hzb⟩ : ∃ z, z = numB w least most := ⟨_, rfl⟩
  have bad : ¬ (numForm w = true ∧ least ≤ (valN w : Int) ∧ (valN w : Int) ≤ most) → zv = 0 ∧ zb = false := fun h => by
    rw [hzv, hzb, numV, numB, numberF, if_neg h]; exact ⟨rfl, rfl⟩
  have good : numForm w = true → least ≤ (valN w : Int) → (valN w : Int) ≤ most → zv = (valN w : Int) ∧ zb = true := fun h1 h2 h3 => by
    rw [hzv, hzb, numV, numB, numberF, if_pos ⟨h1, h2, h3⟩]; exact ⟨rfl, rfl⟩
  rw [← hzv, ← hzb]
  refine ESpec.enter Tryd.func19 (by kernel_rfl) rfl (Nat.le_of_ble_eq_true rfl) fun hok cx hnt hfr => ?_
  obtain ⟨F, hF⟩ := real_ex
  refine AK.runT hF tabOK hmix hnt hfr false _ hG ?_
  conv => arg 4; cbv
  have hwl : w.length ≤ maxLen := hok.1
  have hm : maxLen = 9223372036854775807 := by decide
  repeat' (first | with_reducible refine AKt.have ?_ | with_reducible refine AKt.tt ?_ | with_reducible refine AKt.ff ?_ | with_reducible refine AKt.yes (by assumption) ?_ | with_reducible refine AKt.no (by assumption) ?_ | with_reducible refine AKt.node (fun hb => ?_) (fun hb => ?_) | with_reducible refine AKt.need ?_ (fun hb => ?_) | with_reducible refine AKt.leaf ?_ | ((with_reducible show _ = true); assumption))
  refine AKp.enterLoop 10 ?_
  conv => arg 7; cbv
  refine AKl.invT hF tabOK hmix hnt hfr false _ hG (fun n vs hs => ∃ (i : Nat) (iv nv : Int), i + n = w.length ∧ i ≤ 10 ∧ iv = i ∧ nv = (valN (w.take i) : Nat) ∧ (w.take i).all digB = true ∧ vs = [(9, .d (.s (.int .i64 iv))), (8, .d (.s (.int .i64 nv)))] ∧ hs = []) w.length ⟨0, _, 0, by omega, by omega, rfl, by simp [valN], by simp, rfl, rfl⟩ (by repeat (first | exact True.intro | refine ⟨⟨rfl, rfl⟩, ?_⟩)) (by repeat (first | exact True.intro | refine ⟨⟨rfl, rfl, rfl⟩, ?_⟩)) ?_
  rintro J n vs hs hJ ⟨i, iv, nv, hi, hi10, hiv, hnv, hall, rfl, rfl⟩
  have hvl := valN_lt i (by omega) hall
  have hp9 : 10 ^ i ≤ 10 ^ 10 := Nat.pow_le_pow_right (by decide) hi10
  have hu : uRefDigits nv = Lib.decDigits (valN (w.take i)) := by subst huRefDigits; show Lib.decDigits nv.toNat = _; rw [hnv]; rfl
  obtain ⟨D, hD⟩ : ∃ z, z = Lib.decDigits (valN (w.take i)) := ⟨_, rfl⟩
  rw [← hD] at hu
  conv => arg 4; cbv
  rw [hu]
  have fin : ∀ T : Tree, True := fun _ => trivial
  refine AKt.node (fun hb1 => ?_) (fun hb1 => ?_)
  · have hlt : i < w.length := by simp only [hF, f_ltI, f_leI, f_eqI, f_eqS, f_eqB, f_not, f_andB, f_orB, f_lenS, f_lenD, f_hasS, f_atS, f_hasC, f_subS, f_hasCat, f_app, f_wrap, f_add, f_sub, f_mul, f_appD, f_fits, f_hasV, f_subV, decide_eq_true_eq, decide_eq_false_iff_not, beq_iff_eq, beq_eq_false_iff_ne, Bool.and_eq_true, Bool.and_eq_false_iff, Bool.not_eq_true, Bool.not_eq_false, Bool.not_eq_eq_eq_not, Bool.not_true, Bool.not_false] at hb1; omega
    refine AKt.node (fun hb2 => ?_) (fun hb2 => ?_)
    · have hlt2 : i < 10 := by simp only [hF, f_ltI, f_leI, f_eqI, f_eqS, f_eqB, f_not, f_andB, f_orB, f_lenS, f_lenD, f_hasS, f_atS, f_hasC, f_subS, f_hasCat, f_app, f_wrap, f_add, f_sub, f_mul, f_appD, f_fits, f_hasV, f_subV, decide_eq_true_eq, decide_eq_false_iff_not, beq_iff_eq, beq_eq_false_iff_ne, Bool.and_eq_true, Bool.and_eq_false_iff, Bool.not_eq_true, Bool.not_eq_false, Bool.not_eq_eq_eq_not, Bool.not_true, Bool.not_false] at hb2; omega
      obtain ⟨c, hc⟩ : ∃ c, w[i]? = some c := ⟨_, List.getElem?_eq_getElem hlt⟩
      have hs := t_hasS hF hlt hiv
      have hno := all_false (p := digB) hc
      have hyes := all_take_succ (p := digB) hc hall
      have hvt := valN_take hc
      have hdb : digB c = (decide (48 ≤ (c.toNat : Int)) && decide ((c.toNat : Int) ≤ 57)) := rfl
      rw [t_atS hF hc hiv]
      have bad2 : digB c = false → zv = 0 ∧ zb = false := fun h => bad (by
        rintro ⟨h1, _⟩
        unfold numForm at h1
        rw [hno h] at h1
        simp at h1)
      have good2 : digB c = true → F .wrap .i64 (F .sub (F .wrap .i64 (F .add (F .wrap .i64 (F .mul 10 nv)) (F .wrap .i64 (c.toNat : Int)))) 48) = ((valN (w.take (i + 1)) : Nat) : Int) := fun h => by
        have := digB_le h
        rw [hF, hvt, hnv]
        show IntKind.i64.wrap (IntKind.i64.wrap (IntKind.i64.wrap (10 * ((valN (w.take i) : Nat) : Int)) + IntKind.i64.wrap (c.toNat : Int)) - 48) = _
        rw [w_i64 (n := 10 * ((valN (w.take i) : Nat) : Int)) (by omega) (by omega), w_i64 (n := (c.toNat : Int)) (by omega) (by omega), w_i64 (n := 10 * ((valN (w.take i) : Nat) : Int) + (c.toNat : Int)) (by omega) (by omega), w_i64 (by omega) (by omega)]
        omega
      repeat' (first | with_reducible refine AKt.have ?_ | with_reducible refine AKt.tt ?_ | with_reducible refine AKt.ff ?_ | with_reducible refine AKt.yes (by assumption) ?_ | with_reducible refine AKt.no (by assumption) ?_ | with_reducible refine AKt.node (fun hb => ?_) (fun hb => ?_) | with_reducible refine AKt.need ?_ (fun hb => ?_) | with_reducible refine AKt.leaf ?_ | ((with_reducible show _ = true); assumption))
      all_goals first
        | (have hd : digB c = true := by
             rw [hdb]
             clear hJ hno hyes bad good bad2 good2
             simp only [hF, f_ltI, f_leI, f_eqI, f_eqS, f_eqB, f_not, f_andB, f_orB, f_lenS, f_lenD, f_hasS, f_atS, f_hasC, f_subS, f_hasCat, f_app, f_wrap, f_add, f_sub, f_mul, f_appD, f_fits, f_hasV, f_subV, decide_eq_true_eq, decide_eq_false_iff_not, beq_iff_eq, beq_eq_false_iff_ne, Bool.and_eq_true, Bool.and_eq_false_iff, Bool.not_eq_true, Bool.not_eq_false, Bool.not_eq_eq_eq_not, Bool.not_true, Bool.not_false] at *
             grind
           rw [good2 hd]
           exact AKp.again _ hfr (by repeat (first | exact True.intro | refine ⟨⟨rfl, rfl⟩, ?_⟩)) (by repeat (first | exact True.intro | refine ⟨⟨rfl, rfl, rfl⟩, ?_⟩)) (hJ (n - 1) _ _ (by omega) ⟨i + 1, _, _, by omega, by omega, inc_i hF hiv (by omega), rfl, hyes hd, rfl, rfl⟩))
        | (refine AKp.doneE tabOK hfr (by rfl) ?_
           show _ = _
           simp only [tupAV]
           have hd : digB c = false := by
             rw [hdb]
             clear hJ hno hyes bad good bad2 good2
             simp only [hF, f_ltI, f_leI, f_eqI, f_eqS, f_eqB, f_not, f_andB, f_orB, f_lenS, f_lenD, f_hasS, f_atS, f_hasC, f_subS, f_hasCat, f_app, f_wrap, f_add, f_sub, f_mul, f_appD, f_fits, f_hasV, f_subV, decide_eq_true_eq, decide_eq_false_iff_not, beq_iff_eq, beq_eq_false_iff_ne, Bool.and_eq_true, Bool.and_eq_false_iff, Bool.not_eq_true, Bool.not_eq_false, Bool.not_eq_eq_eq_not, Bool.not_true, Bool.not_false] at *
             grind
           obtain ⟨g1, g2⟩ := bad2 hd
           rw [g1, g2])
    · have hge : ¬ i < 10 := by simp only [hF, f_ltI, f_leI, f_eqI, f_eqS, f_eqB, f_not, f_andB, f_orB, f_lenS, f_lenD, f_hasS, f_atS, f_hasC, f_subS, f_hasCat, f_app, f_wrap, f_add, f_sub, f_mul, f_appD, f_fits, f_hasV, f_subV, decide_eq_true_eq, decide_eq_false_iff_not, beq_iff_eq, beq_eq_false_iff_ne, Bool.and_eq_true, Bool.and_eq_false_iff, Bool.not_eq_true, Bool.not_eq_false, Bool.not_eq_eq_eq_not, Bool.not_true, Bool.not_false] at hb2; omega
      have hl9 : F .ltI 9 (F .lenS w) = true := by rw [hF, f_ltI, f_lenS]; exact decide_eq_true (by omega)
      have g := bad (by
        rintro ⟨h1, _⟩
        unfold numForm at h1
        rw [decide_eq_false (show ¬ w.length ≤ 9 by omega)] at h1
        simp at h1)
      rw [hl9]
      repeat' (first | with_reducible refine AKt.have ?_ | with_reducible refine AKt.tt ?_ | with_reducible refine AKt.ff ?_ | with_reducible refine AKt.yes (by assumption) ?_ | with_reducible refine AKt.no (by assumption) ?_ | with_reducible refine AKt.node (fun hb => ?_) (fun hb => ?_) | with_reducible refine AKt.need ?_ (fun hb => ?_) | with_reducible refine AKt.leaf ?_ | ((with_reducible show _ = true); assumption))
      refine AKp.doneE tabOK hfr (by rfl) ?_
      show _ = _
      simp only [tupAV]
      rw [g.1, g.2]
  · have hge : ¬ i < w.length := by simp only [hF, f_ltI, f_leI, f_eqI, f_eqS, f_eqB, f_not, f_andB, f_orB, f_lenS, f_lenD, f_hasS, f_atS, f_hasC, f_subS, f_hasCat, f_app, f_wrap, f_add, f_sub, f_mul, f_appD, f_fits, f_hasV, f_subV, decide_eq_true_eq, decide_eq_false_iff_not, beq_iff_eq, beq_eq_false_iff_ne, Bool.and_eq_true, Bool.and_eq_false_iff, Bool.not_eq_true, Bool.not_eq_false, Bool.not_eq_eq_eq_not, Bool.not_true, Bool.not_false] at hb1; omega
    rw [List.take_of_length_le (by omega)] at hnv hall hD
    have hf : w.length ≤ 9 → numForm w = decide (D = w) := fun h => by rw [num_dig hall h, hD]
    repeat' (first | with_reducible refine AKt.have ?_ | with_reducible refine AKt.tt ?_ | with_reducible refine AKt.ff ?_ | with_reducible refine AKt.yes (by assumption) ?_ | with_reducible refine AKt.no (by assumption) ?_ | with_reducible refine AKt.node (fun hb => ?_) (fun hb => ?_) | with_reducible refine AKt.need ?_ (fun hb => ?_) | with_reducible refine AKt.leaf ?_ | ((with_reducible show _ = true); assumption))
    all_goals first
      | (refine AKp.doneE tabOK hfr (by rfl) ?_
         show _ = _
         simp only [tupAV]
         have g : ¬ (numForm w = true ∧ least ≤ (valN w : Int) ∧ (valN w : Int) ≤ most) := by
           rintro ⟨h1, h2, h3⟩
           have h9 : w.length ≤ 9 := by
             unfold numForm at h1
             simp only [Bool.and_eq_true, decide_eq_true_eq] at h1
             exact h1.1.1.2
           rw [hf h9] at h1
           have h1 := of_decide_eq_true h1
           clear hJ bad good hf hall
           simp only [hF, f_ltI, f_leI, f_eqI, f_eqS, f_eqB, f_not, f_andB, f_orB, f_lenS, f_lenD, f_hasS, f_atS, f_hasC, f_subS, f_hasCat, f_app, f_wrap, f_add, f_sub, f_mul, f_appD, f_fits, f_hasV, f_subV, decide_eq_true_eq, decide_eq_false_iff_not, beq_iff_eq, beq_eq_false_iff_ne, Bool.and_eq_true, Bool.and_eq_false_iff, Bool.not_eq_true, Bool.not_eq_false, Bool.not_eq_eq_eq_not, Bool.not_true, Bool.not_false] at *
           first
             | omega
             | exact absurd h1 (by assumption)
             | grind
         obtain ⟨g1, g2⟩ := bad g
         rw [g1, g2]
         done)
      | (refine AKp.doneE tabOK hfr (by rfl) ?_
         show _ = _
         simp only [tupAV]
         have g := good (by
           have h9 : w.length ≤ 9 := by
             have := ‹F .ltI 9 (F .lenS w) = false›
             simp only [hF, f_ltI, f_leI, f_eqI, f_eqS, f_eqB, f_not, f_andB, f_orB, f_lenS, f_lenD, f_hasS, f_atS, f_hasC, f_subS, f_hasCat, f_app, f_wrap, f_add, f_sub, f_mul, f_appD, f_fits, f_hasV, f_subV, decide_eq_true_eq, decide_eq_false_iff_not, beq_iff_eq, beq_eq_false_iff_ne, Bool.and_eq_true, Bool.and_eq_false_iff, Bool.not_eq_true, Bool.not_eq_false, Bool.not_eq_eq_eq_not, Bool.not_true, Bool.not_false] at this
             omega
           rw [hf h9]
           clear hJ bad good hf hall
           simp only [hF, f_ltI, f_leI, f_eqI, f_eqS, f_eqB, f_not, f_andB, f_orB, f_lenS, f_lenD, f_hasS, f_atS, f_hasC, f_subS, f_hasCat, f_app, f_wrap, f_add, f_sub, f_mul, f_appD, f_fits, f_hasV, f_subV, decide_eq_true_eq, decide_eq_false_iff_not, beq_iff_eq, beq_eq_false_iff_ne, Bool.and_eq_true, Bool.and_eq_false_iff, Bool.not_eq_true, Bool.not_eq_false, Bool.not_eq_eq_eq_not, Bool.not_true, Bool.not_false] at *
           grind) (by clear hJ bad good hf hall; simp only [hF, f_ltI, f_leI, f_eqI, f_eqS, f_eqB, f_not, f_andB, f_orB, f_lenS, f_lenD, f_hasS, f_atS, f_hasC, f_subS, f_hasCat, f_app, f_wrap, f_add, f_sub, f_mul, f_appD, f_fits, f_hasV, f_subV, decide_eq_true_eq, decide_eq_false_iff_not, beq_iff_eq, beq_eq_false_iff_ne, Bool.and_eq_true, Bool.and_eq_false_iff, Bool.not_eq_true, Bool.not_eq_false, Bool.not_eq_eq_eq_not, Bool.not_true, Bool.not_false] at *; omega) (by clear hJ bad good hf hall; simp only [hF, f_ltI, f_leI, f_eqI, f_eqS, f_eqB, f_not, f_andB, f_orB, f_lenS, f_lenD, f_hasS, f_atS, f_hasC, f_subS, f_hasCat, f_app, f_wrap, f_add, f_sub, f_mul, f_appD, f_fits, f_hasV, f_subV, decide_eq_true_eq, decide_eq_false_iff_not, beq_iff_eq, beq_eq_false_iff_ne, Bool.and_eq_true, Bool.and_eq_false_iff, Bool.not_eq_true, Bool.not_eq_false, Bool.not_eq_eq_eq_not, Bool.not_true, Bool.not_false] at *; omega)
         rw [g.1, g.2, hnv])
def φRefNumber (u : List UInt8 → Int → Int → Int) (v : List UInt8 → Int → Int → Bool) : List AV → Option (Bool × AV)
  | [.d (.s (.str w)), .d (.s (.int .i64 a)), .d (.s (.int .i64 b))] => some (true, .tup [.d (.s (.int .i64 (u w a b))), .d (.s (.bool (v w a b)))])
  | _ => none
theorem φRefNumber_ok : SpOK Tryd.prog 19 (φRefNumber (numV) (numB)) := by
  intro xs b x h hb
  unfold φRefNumber at h
  split at h
  · simp only [Option.some.injEq, Prod.mk.injEq] at h
    obtain ⟨rfl, rfl⟩ := h
    exact RefNumber_spec _ _ _
  · cases h
theorem hexOK_C : ∀ d : Nat, d < 16 → hexOK (hexC d) = true ∧ hexV (hexC d) = d := by decide
theorem hexN_fold : ∀ (k n : Nat), n < 16 ^ k → (hexN k n).all hexOK = true ∧ foldH (hexN k n) = n
  | 0, n, h => by
    have : n = 0 := by simpa using h
    subst this
    exact ⟨rfl, rfl⟩
  | k + 1, n, h => by
    have h : n < 16 ^ k * 16 := h
    obtain ⟨g1, g2⟩ := hexN_fold k (n / 16) (by omega)
    obtain ⟨c1, c2⟩ := hexOK_C (n % 16) (Nat.mod_lt _ (by decide))
    rw [hexN]
    refine ⟨by rw [List.all_append, g1]; simp [c1], ?_⟩
    have : foldH (hexN k (n / 16) ++ [hexC (n % 16)]) = 16 * foldH (hexN k (n / 16)) + hexV (hexC (n % 16)) := by simp [foldH, List.foldl_append]
    rw [this, g2, c2]
    omega
theorem unhex_hex {h : Int} (h0 : 0 ≤ h) (h1 : h ≤ 18446744073709551615) : unhexB (hexN 16 h.toNat) = true ∧ unhexV (hexN 16 h.toNat) = h := by
  obtain ⟨g1, g2⟩ := hexN_fold 16 h.toNat (by omega)
  have hb : unhexB (hexN 16 h.toNat) = true := by rw [unhexB, g1, hexN_len]; rfl
  refine ⟨hb, ?_⟩
  rw [unhexV, if_pos hb, g2]
  omega

def joinP (l : List Dat) (s : List UInt8) : Bool := isStrs l && (decide (l.length ≤ 140737488355328) && decide ((Lib.join (unStr l) s).length ≤ 140737488355328))
theorem StrJoinD_spec (l : List Dat) (s : List UInt8) (h : joinP l s = true) : ESpec Tryd.prog 24 [.d (.view 1 l), .d (.s (.str s))] (fun x => x = .d (.s (.str (Lib.join (unStr l) s)))) := by
  simp only [joinP, Bool.and_eq_true, decide_eq_true_eq] at h
  have := StrJoin_spec (unStr l) s (by unfold unStr; rw [List.length_map]; exact h.2.1) h.2.2
  rwa [strDs_unStr h.1] at this
def φSJoin (p : List Dat → List UInt8 → Bool) (u : List Dat → List UInt8 → List UInt8) : List AV → Option (Bool × AV)
  | [.d (.view 1 l), .d (.s (.str s))] => some (p l s, .d (.s (.str (u l s))))
  | _ => none
theorem φSJoin_ok : SpOK Tryd.prog 24 (φSJoin (joinP) (fun l s => Lib.join (unStr l) s)) := by
  intro xs b x h hb
  unfold φSJoin at h
  split at h
  · simp only [Option.some.injEq, Prod.mk.injEq] at h
    obtain ⟨rfl, rfl⟩ := h
    exact StrJoinD_spec _ _ hb
  · cases h
theorem join32_len {n : Nat} : ∀ {ws : List (List UInt8)}, (∀ w, w ∈ ws → w.length ≤ n) → (Lib.join ws [32]).length ≤ (n + 1) * ws.length
  | [], _ => by simp [Lib.join_nil]
  | [a], h => by
    have := h a (by simp)
    rw [Lib.join_one]; simp; omega
  | a :: b :: r, h => by
    have h1 := h a (by simp)
    have h2 := join32_len (ws := b :: r) fun w hw => h w (List.mem_cons_of_mem _ hw)
    rw [join_cons2]
    simp only [List.length_append, List.length_cons] at h2 ⊢
    rw [Nat.mul_add]
    omega
/-- Few short words are joined. -/
theorem joinP_of {ws : List (List UInt8)} {n : Nat} (hl : ws.length ≤ 1000) (hw : ∀ w, w ∈ ws → w.length ≤ n) (hn : n ≤ 1000000) : joinP (strDs ws) [32] = true := by
  have h3 := join32_len hw
  have h4 : (n + 1) * ws.length ≤ 1000001 * 1000 := Nat.mul_le_mul (by omega) hl
  unfold joinP
  rw [isStrs_strDs, unStr_strDs, strDs_length, decide_eq_true (by omega), decide_eq_true (by omega)]
  rfl
end Go.Proofs.YtpoebpggapfooaaDoor

/- What is told, as a line. -/
namespace Go.Proofs.YtpoebpggapfooaaDoor
open Go Go.Proofs Go.Ua Go.Extern
set_option linter.unusedVariables false
set_option linter.unusedSimpArgs false
set_option maxRecDepth 10000

def verbF (k : Int) : List UInt8 := if k = 1 then [115, 116, 97, 114, 116, 101, 100] else if k = 2 then [114, 101, 102, 117, 115, 101, 100] else if k = 3 then [108, 97, 116, 101] else if k = 4 then [103, 111, 110, 101]
  else if k = 5 then [101, 110, 100, 101, 100] else if k = 6 then [119, 114, 111, 110, 103] else if k = 7 then [108, 111, 97, 100, 101, 100] else []
theorem verb_spec (k : Int) : ESpec Tryd.prog 22 [.d (.s (.int .i64 k))] (fun x => x = .d (.s (.str (verbF k)))) := by
  refine ESpec.enter Tryd.func22 (by kernel_rfl) rfl (Nat.le_of_ble_eq_true rfl) fun _ cx hnt hfr => ?_
  obtain ⟨F, hF⟩ := real_ex
  refine AK.runT hF tabOK hmix hnt hfr false [] trivial ?_
  conv => arg 4; cbv
  repeat' (first | with_reducible refine AKt.have ?_ | with_reducible refine AKt.tt ?_ | with_reducible refine AKt.ff ?_ | with_reducible refine AKt.yes (by assumption) ?_ | with_reducible refine AKt.no (by assumption) ?_ | with_reducible refine AKt.node (fun hb => ?_) (fun hb => ?_) | with_reducible refine AKt.need ?_ (fun hb => ?_) | with_reducible refine AKt.leaf ?_ | ((with_reducible show _ = true); assumption))
  all_goals
    refine AKp.doneE tabOK hfr (by rfl) ?_
    show _ = _
    simp only [tupAV]
    simp only [hF, f_ltI, f_leI, f_eqI, f_eqS, f_eqB, f_not, f_andB, f_orB, f_lenS, f_lenD, f_hasS, f_atS, f_hasC, f_subS, f_hasCat, f_app, f_wrap, f_add, f_sub, f_mul, f_appD, f_fits, f_hasV, f_subV, decide_eq_true_eq, decide_eq_false_iff_not, beq_iff_eq, beq_eq_false_iff_ne, Bool.and_eq_true, Bool.and_eq_false_iff, Bool.not_eq_true, Bool.not_eq_false, Bool.not_eq_eq_eq_not, Bool.not_true, Bool.not_false] at *
    simp [verbF, *]
def φVerb (u : Int → List UInt8) : List AV → Option (Bool × AV)
  | [.d (.s (.int .i64 n))] => some (true, .d (.s (.str (u n))))
  | _ => none
theorem φVerb_ok : SpOK Tryd.prog 22 (φVerb (verbF)) := by
  intro xs b x h hb
  unfold φVerb at h
  split at h
  · simp only [Option.some.injEq, Prod.mk.injEq] at h
    obtain ⟨rfl, rfl⟩ := h
    exact verb_spec _
  · cases h

def digI (n : Int) : List UInt8 := Lib.decDigits n.toNat
def hexI (n : Int) : List UInt8 := hexN 16 n.toNat
def lineW (a k i : Int) (lv : List UInt8) (s w d : Int) : List (List UInt8) :=
  if k = 6 then [digI a, verbF k, digI w] else if k = 7 then [digI a, verbF k, hexI d] else if k = 1 then [digI a, verbF k, digI i, lv, digI s] else if k = 2 then [digI a, verbF k, digI i, lv, digI w] else [digI a, verbF k, digI i, lv]
def lineF (a k i : Int) (lv : List UInt8) (s w d : Int) : List UInt8 := Lib.join (lineW a k i lv s w d) [32]
def short (lv : List UInt8) : Bool := decide (lv.length ≤ 100000)
theorem digI_len {n : Int} (h : n ≤ 9223372036854775807) : (digI n).length ≤ 21 := decDigits_le _ (by omega)
theorem verbF_len (k : Int) : (verbF k).length ≤ 21 := by unfold verbF; repeat' split
                                                          all_goals decide
set_option maxRecDepth 10000 in
theorem line_spec (a k i : Int) (lv : List UInt8) (s w d : Int) (hlv : short lv = true) :
    ESpec Tryd.prog 11 [.d (.agg [.s (.int .i64 a), .s (.int .i64 k), .s (.int .i64 i), .s (.str lv), .s (.int .i64 s), .s (.int .i64 w), .s (.int .u64 d)])] (fun x => x = .d (.s (.str (lineF a k i lv s w d)))) := by
  obtain ⟨uDigits, huDigits⟩ : ∃ u : Int → List UInt8, u = fun n => Lib.decDigits n.toNat := ⟨_, rfl⟩
  obtain ⟨uVerb, huVerb⟩ : ∃ u : Int → List UInt8, u = verbF := ⟨_, rfl⟩
  obtain ⟨uHex, huHex⟩ : ∃ u : Int → List UInt8, u = fun n => hexN 16 n.toNat := ⟨_, rfl⟩
  obtain ⟨uSJoin, huSJoin⟩ : ∃ u : List Dat → List UInt8 → Bool, u = joinP := ⟨_, rfl⟩
  obtain ⟨uSJoin1, huSJoin1⟩ : ∃ u : List Dat → List UInt8 → List UInt8, u = fun l s => Lib.join (unStr l) s := ⟨_, rfl⟩
  have hG : TblOK Tryd.prog [(21, φDigits uDigits), (22, φVerb uVerb), (23, φHex uHex), (24, φSJoin uSJoin uSJoin1)] := ⟨(by rw [huDigits]; exact φDigits_ok), (by rw [huVerb]; exact φVerb_ok), (by rw [huHex]; exact φHex_ok), (by rw [huSJoin, huSJoin1]; exact φSJoin_ok), trivial⟩
  obtain ⟨Z, hZ⟩ : ∃ z, z = lineF a k i lv s w d := ⟨_, rfl⟩
  rw [← hZ]
  refine ESpec.enter Tryd.func11 (by kernel_rfl) rfl (Nat.le_of_ble_eq_true rfl) fun hok cx hnt hfr => ?_
  obtain ⟨F, hF⟩ := real_ex
  refine AK.runT hF tabOK hmix hnt hfr false _ hG ?_
  conv => arg 4; cbv
  have o1 : a ≤ 9223372036854775807 := hok.1.1.2
  have o3 : i ≤ 9223372036854775807 := hok.1.2.2.1.2
  have o5 : s ≤ 9223372036854775807 := hok.1.2.2.2.2.1.2
  have o6 : w ≤ 9223372036854775807 := hok.1.2.2.2.2.2.1.2
  have ol : lv.length ≤ 100000 := of_decide_eq_true hlv
  have d1 := digI_len o1
  have d3 := digI_len o3
  have d5 := digI_len o5
  have d6 := digI_len o6
  have dv := verbF_len k
  have dh : (hexI d).length ≤ 21 := by unfold hexI; rw [hexN_len]; decide
  have ea : uDigits a = digI a := by subst huDigits huVerb huHex huSJoin huSJoin1; rfl
  have ei : uDigits i = digI i := by subst huDigits huVerb huHex huSJoin huSJoin1; rfl
  have es : uDigits s = digI s := by subst huDigits huVerb huHex huSJoin huSJoin1; rfl
  have ew : uDigits w = digI w := by subst huDigits huVerb huHex huSJoin huSJoin1; rfl
  have ek : uVerb k = verbF k := by subst huDigits huVerb huHex huSJoin huSJoin1; rfl
  have eh : uHex d = hexI d := by subst huDigits huVerb huHex huSJoin huSJoin1; rfl
  have key : ∀ (ws : List (List UInt8)) (l : List Dat), l = strDs ws → lineW a k i lv s w d = ws → (∀ x, x ∈ ws → x.length ≤ 100000) → ws.length ≤ 5 → F .fits 16 l = true ∧ uSJoin l [32] = true ∧ uSJoin1 l [32] = Z := by
    intro ws l hl h1 h2 h3
    refine ⟨t_fits hF (by rw [hl, strDs_length]; omega), ?_, ?_⟩
    · subst huDigits huVerb huHex huSJoin huSJoin1
      rw [hl]
      exact joinP_of (by omega) h2 (by decide)
    · subst huDigits huVerb huHex huSJoin huSJoin1
      show Lib.join (unStr l) [32] = _
      rw [hl, unStr_strDs, hZ, lineF, h1]
  obtain ⟨l1, hl1⟩ : ∃ l, l = F .appD [.s (.str (uDigits a)), .s (.str (uVerb k))] [.s (.str (uDigits w))] := ⟨_, rfl⟩
  obtain ⟨l2, hl2⟩ : ∃ l, l = F .appD [.s (.str (uDigits a)), .s (.str (uVerb k))] [.s (.str (uHex d))] := ⟨_, rfl⟩
  obtain ⟨l3, hl3⟩ : ∃ l, l = F .appD [.s (.str (uDigits a)), .s (.str (uVerb k))] [.s (.str (uDigits i)), .s (.str lv)] := ⟨_, rfl⟩
  rw [← hl1, ← hl2, ← hl3]
  obtain ⟨l4, hl4⟩ : ∃ l, l = F .appD l3 [.s (.str (uDigits s))] := ⟨_, rfl⟩
  obtain ⟨l5, hl5⟩ : ∃ l, l = F .appD l3 [.s (.str (uDigits w))] := ⟨_, rfl⟩
  rw [← hl4, ← hl5]
  have g1 : l1 = strDs [digI a, verbF k, digI w] := by rw [hl1, ea, ek, ew, hF]; rfl
  have g2 : l2 = strDs [digI a, verbF k, hexI d] := by rw [hl2, ea, ek, eh, hF]; rfl
  have g3 : l3 = strDs [digI a, verbF k, digI i, lv] := by rw [hl3, ea, ek, ei, hF]; rfl
  have g4 : l4 = strDs [digI a, verbF k, digI i, lv, digI s] := by rw [hl4, g3, es, hF]; rfl
  have g5 : l5 = strDs [digI a, verbF k, digI i, lv, digI w] := by rw [hl5, g3, ew, hF]; rfl
  clear hl1 hl2 hl3 hl4 hl5
  have mm : ∀ (l : List (List UInt8)), (∀ x, x ∈ l → x = digI a ∨ x = verbF k ∨ x = digI i ∨ x = lv ∨ x = digI s ∨ x = digI w ∨ x = hexI d) → ∀ x, x ∈ l → x.length ≤ 100000 := by
    intro l h x hx
    rcases h x hx with rfl | rfl | rfl | rfl | rfl | rfl | rfl <;> omega
  have f3 : F .fits 16 l3 = true := t_fits hF (by rw [g3, strDs_length]; simp)
  refine AKt.have (AKt.have ?_)
  refine AKt.node (fun h6 => ?_) (fun h6 => ?_)
  · have e6 := eqI1 hF h6
    obtain ⟨k1, k2, k3⟩ := key _ l1 g1 (by rw [lineW, if_pos e6]) (mm _ (by simp)) (by simp)
    repeat' (first | with_reducible refine AKt.have ?_ | with_reducible refine AKt.tt ?_ | with_reducible refine AKt.ff ?_ | with_reducible refine AKt.yes (by assumption) ?_ | with_reducible refine AKt.no (by assumption) ?_ | with_reducible refine AKt.node (fun hb => ?_) (fun hb => ?_) | with_reducible refine AKt.need ?_ (fun hb => ?_) | with_reducible refine AKt.leaf ?_ | ((with_reducible show _ = true); assumption))
    refine AKp.freeze 3 rfl ?_
    conv => arg 4; arg 2; cbv
    refine AK.runT hF tabOK hmix hnt hfr false _ hG ?_
    conv => arg 4; cbv
    repeat' (first | with_reducible refine AKt.have ?_ | with_reducible refine AKt.tt ?_ | with_reducible refine AKt.ff ?_ | with_reducible refine AKt.yes (by assumption) ?_ | with_reducible refine AKt.no (by assumption) ?_ | with_reducible refine AKt.node (fun hb => ?_) (fun hb => ?_) | with_reducible refine AKt.need ?_ (fun hb => ?_) | with_reducible refine AKt.leaf ?_ | ((with_reducible show _ = true); assumption))
    refine AKp.doneE tabOK hfr (by rfl) ?_
    show _ = _
    simp only [tupAV]
    rw [k3]
  have e6 := eqI0 hF h6
  refine AKt.node (fun h7 => ?_) (fun h7 => ?_)
  · have e7 := eqI1 hF h7
    obtain ⟨k1, k2, k3⟩ := key _ l2 g2 (by rw [lineW, if_neg e6, if_pos e7]) (mm _ (by simp)) (by simp)
    repeat' (first | with_reducible refine AKt.have ?_ | with_reducible refine AKt.tt ?_ | with_reducible refine AKt.ff ?_ | with_reducible refine AKt.yes (by assumption) ?_ | with_reducible refine AKt.no (by assumption) ?_ | with_reducible refine AKt.node (fun hb => ?_) (fun hb => ?_) | with_reducible refine AKt.need ?_ (fun hb => ?_) | with_reducible refine AKt.leaf ?_ | ((with_reducible show _ = true); assumption))
    refine AKp.freeze 3 rfl ?_
    conv => arg 4; arg 2; cbv
    refine AK.runT hF tabOK hmix hnt hfr false _ hG ?_
    conv => arg 4; cbv
    repeat' (first | with_reducible refine AKt.have ?_ | with_reducible refine AKt.tt ?_ | with_reducible refine AKt.ff ?_ | with_reducible refine AKt.yes (by assumption) ?_ | with_reducible refine AKt.no (by assumption) ?_ | with_reducible refine AKt.node (fun hb => ?_) (fun hb => ?_) | with_reducible refine AKt.need ?_ (fun hb => ?_) | with_reducible refine AKt.leaf ?_ | ((with_reducible show _ = true); assumption))
    refine AKp.doneE tabOK hfr (by rfl) ?_
    show _ = _
    simp only [tupAV]
    rw [k3]
  have e7 := eqI0 hF h7
  refine AKt.have (AKt.need f3 fun _ => ?_)
  refine AKt.node (fun h1 => ?_) (fun h1 => ?_)
  · have e1 := eqI1 hF h1
    obtain ⟨k1, k2, k3⟩ := key _ l4 g4 (by rw [lineW, if_neg e6, if_neg e7, if_pos e1]) (mm _ (by simp)) (by simp)
    repeat' (first | with_reducible refine AKt.have ?_ | with_reducible refine AKt.tt ?_ | with_reducible refine AKt.ff ?_ | with_reducible refine AKt.yes (by assumption) ?_ | with_reducible refine AKt.no (by assumption) ?_ | with_reducible refine AKt.node (fun hb => ?_) (fun hb => ?_) | with_reducible refine AKt.need ?_ (fun hb => ?_) | with_reducible refine AKt.leaf ?_ | ((with_reducible show _ = true); assumption))
    refine AKp.freeze 4 rfl ?_
    conv => arg 4; arg 2; cbv
    refine AK.runT hF tabOK hmix hnt hfr false _ hG ?_
    conv => arg 4; cbv
    repeat' (first | with_reducible refine AKt.have ?_ | with_reducible refine AKt.tt ?_ | with_reducible refine AKt.ff ?_ | with_reducible refine AKt.yes (by assumption) ?_ | with_reducible refine AKt.no (by assumption) ?_ | with_reducible refine AKt.node (fun hb => ?_) (fun hb => ?_) | with_reducible refine AKt.need ?_ (fun hb => ?_) | with_reducible refine AKt.leaf ?_ | ((with_reducible show _ = true); assumption))
    refine AKp.doneE tabOK hfr (by rfl) ?_
    show _ = _
    simp only [tupAV]
    rw [k3]
  have e1 := eqI0 hF h1
  refine AKt.node (fun h2 => ?_) (fun h2 => ?_)
  · have e2 := eqI1 hF h2
    obtain ⟨k1, k2, k3⟩ := key _ l5 g5 (by rw [lineW, if_neg e6, if_neg e7, if_neg e1, if_pos e2]) (mm _ (by simp)) (by simp)
    repeat' (first | with_reducible refine AKt.have ?_ | with_reducible refine AKt.tt ?_ | with_reducible refine AKt.ff ?_ | with_reducible refine AKt.yes (by assumption) ?_ | with_reducible refine AKt.no (by assumption) ?_ | with_reducible refine AKt.node (fun hb => ?_) (fun hb => ?_) | with_reducible refine AKt.need ?_ (fun hb => ?_) | with_reducible refine AKt.leaf ?_ | ((with_reducible show _ = true); assumption))
    refine AKp.freeze 4 rfl ?_
    conv => arg 4; arg 2; cbv
    refine AK.runT hF tabOK hmix hnt hfr false _ hG ?_
    conv => arg 4; cbv
    repeat' (first | with_reducible refine AKt.have ?_ | with_reducible refine AKt.tt ?_ | with_reducible refine AKt.ff ?_ | with_reducible refine AKt.yes (by assumption) ?_ | with_reducible refine AKt.no (by assumption) ?_ | with_reducible refine AKt.node (fun hb => ?_) (fun hb => ?_) | with_reducible refine AKt.need ?_ (fun hb => ?_) | with_reducible refine AKt.leaf ?_ | ((with_reducible show _ = true); assumption))
    refine AKp.doneE tabOK hfr (by rfl) ?_
    show _ = _
    simp only [tupAV]
    rw [k3]
  have e2 := eqI0 hF h2
  obtain ⟨k1, k2, k3⟩ := key _ l3 g3 (by rw [lineW, if_neg e6, if_neg e7, if_neg e1, if_neg e2]) (mm _ (by simp)) (by simp)
  repeat' (first | with_reducible refine AKt.have ?_ | with_reducible refine AKt.tt ?_ | with_reducible refine AKt.ff ?_ | with_reducible refine AKt.yes (by assumption) ?_ | with_reducible refine AKt.no (by assumption) ?_ | with_reducible refine AKt.node (fun hb => ?_) (fun hb => ?_) | with_reducible refine AKt.need ?_ (fun hb => ?_) | with_reducible refine AKt.leaf ?_ | ((with_reducible show _ = true); assumption))
  refine AKp.freeze 2 rfl ?_
  conv => arg 4; arg 2; cbv
  refine AK.runT hF tabOK hmix hnt hfr false _ hG ?_
  conv => arg 4; cbv
  repeat' (first | with_reducible refine AKt.have ?_ | with_reducible refine AKt.tt ?_ | with_reducible refine AKt.ff ?_ | with_reducible refine AKt.yes (by assumption) ?_ | with_reducible refine AKt.no (by assumption) ?_ | with_reducible refine AKt.node (fun hb => ?_) (fun hb => ?_) | with_reducible refine AKt.need ?_ (fun hb => ?_) | with_reducible refine AKt.leaf ?_ | ((with_reducible show _ = true); assumption))
  refine AKp.doneE tabOK hfr (by rfl) ?_
  show _ = _
  simp only [tupAV]
  rw [k3]
def φLine (p : List UInt8 → Bool) (u : Int → Int → Int → List UInt8 → Int → Int → Int → List UInt8) : List AV → Option (Bool × AV)
  | [.d (.agg [.s (.int .i64 a), .s (.int .i64 k), .s (.int .i64 i), .s (.str lv), .s (.int .i64 s), .s (.int .i64 w), .s (.int .u64 d)])] => some (p lv, .d (.s (.str (u a k i lv s w d))))
  | _ => none
theorem φLine_ok : SpOK Tryd.prog 11 (φLine (short) (lineF)) := by
  intro xs b x h hb
  unfold φLine at h
  split at h
  · simp only [Option.some.injEq, Prod.mk.injEq] at h
    obtain ⟨rfl, rfl⟩ := h
    exact line_spec _ _ _ _ _ _ _ hb
  · cases h
end Go.Proofs.YtpoebpggapfooaaDoor

/- What the words of a line tell. -/
namespace Go.Proofs.YtpoebpggapfooaaDoor
open Go Go.Proofs Go.Ua Go.Extern
set_option linter.unusedVariables false
set_option linter.unusedSimpArgs false
set_option maxRecDepth 10000

/-- What is told. -/
structure Tl where
  a : Int
  k : Int
  i : Int
  lv : List UInt8
  s : Int
  w : Int
  d : Int
def Tl.dat (t : Tl) : Dat := .agg [.s (.int .i64 t.a), .s (.int .i64 t.k), .s (.int .i64 t.i), .s (.str t.lv), .s (.int .i64 t.s), .s (.int .i64 t.w), .s (.int .u64 t.d)]
def Tl.line (t : Tl) : List UInt8 := lineF t.a t.k t.i t.lv t.s t.w t.d
def kindS (s : List UInt8) : Int := if s = verbF 1 then 1 else if s = verbF 2 then 2 else if s = verbF 3 then 3 else if s = verbF 4 then 4 else if s = verbF 5 then 5 else if s = verbF 6 then 6 else if s = verbF 7 then 7 else 0
theorem kindS_iff (s : List UInt8) : ∀ k : Nat, 1 ≤ k → k ≤ 7 → (s = verbF k ↔ kindS s = k) := by
  intro k h1 h7
  have hk : k = 1 ∨ k = 2 ∨ k = 3 ∨ k = 4 ∨ k = 5 ∨ k = 6 ∨ k = 7 := by omega
  unfold kindS
  rcases hk with rfl | rfl | rfl | rfl | rfl | rfl | rfl
  all_goals
    constructor
    · intro h
      subst h
      decide
    · intro h
      revert h
      repeat' split
      all_goals first | (intro _; assumption) | (intro h; exact absurd h (by decide))
theorem kindS_le (s : List UInt8) : 0 ≤ kindS s ∧ kindS s ≤ 7 := by
  unfold kindS
  repeat' split
  all_goals decide
def parsedF (ws : List (List UInt8)) : Tl × Bool :=
  if ws.length < 3 then (Tl.mk 0 0 0 [] 0 0 0, false)
  else if numB (ws.getD 0 []) 0 999999999 = false ∨ kindS (ws.getD 1 []) = 0 then (Tl.mk (numV (ws.getD 0 []) 0 999999999) (kindS (ws.getD 1 [])) 0 [] 0 0 0, false)
  else if kindS (ws.getD 1 []) = 6 then (Tl.mk (numV (ws.getD 0 []) 0 999999999) 6 0 [] 0 (numV (ws.getD 2 []) 1 99) 0, numB (ws.getD 2 []) 1 99 && decide (ws.length = 3))
  else if kindS (ws.getD 1 []) = 7 then (Tl.mk (numV (ws.getD 0 []) 0 999999999) 7 0 [] 0 0 (unhexV (ws.getD 2 [])), unhexB (ws.getD 2 []) && decide (ws.length = 3))
  else if numB (ws.getD 2 []) 0 999999999 = false ∨ ws.length < 4 ∨ nameF (ws.getD 3 []) = false then (Tl.mk (numV (ws.getD 0 []) 0 999999999) (kindS (ws.getD 1 [])) (numV (ws.getD 2 []) 0 999999999) [] 0 0 0, false)
  else if kindS (ws.getD 1 []) = 1 ∧ ws.length = 5 then (Tl.mk (numV (ws.getD 0 []) 0 999999999) (kindS (ws.getD 1 [])) (numV (ws.getD 2 []) 0 999999999) (ws.getD 3 []) (numV (ws.getD 4 []) 1 16) 0 0, numB (ws.getD 4 []) 1 16)
  else if kindS (ws.getD 1 []) = 2 ∧ ws.length = 5 then (Tl.mk (numV (ws.getD 0 []) 0 999999999) (kindS (ws.getD 1 [])) (numV (ws.getD 2 []) 0 999999999) (ws.getD 3 []) 0 (numV (ws.getD 4 []) 1 99) 0, numB (ws.getD 4 []) 1 99)
  else (Tl.mk (numV (ws.getD 0 []) 0 999999999) (kindS (ws.getD 1 [])) (numV (ws.getD 2 []) 0 999999999) (ws.getD 3 []) 0 0 0, !(decide (kindS (ws.getD 1 []) = 1)) && (!(decide (kindS (ws.getD 1 []) = 2)) && decide (ws.length = 4)))

set_option maxRecDepth 10000 in
theorem parsed_spec (ws : List (List UInt8)) : ESpec Tryd.prog 16 [.d (.view 1 (strDs ws))] (fun x => x = .tup [.d (parsedF ws).1.dat, .d (.s (.bool (parsedF ws).2))]) := by
  obtain ⟨uNumber, huNumber⟩ : ∃ u : List UInt8 → Int → Int → Int, u = numV := ⟨_, rfl⟩
  obtain ⟨uNumber1, huNumber1⟩ : ∃ u : List UInt8 → Int → Int → Bool, u = numB := ⟨_, rfl⟩
  obtain ⟨uVerb, huVerb⟩ : ∃ u : Int → List UInt8, u = verbF := ⟨_, rfl⟩
  obtain ⟨uUnhex, huUnhex⟩ : ∃ u : List UInt8 → Int, u = unhexV := ⟨_, rfl⟩
  obtain ⟨uUnhex1, huUnhex1⟩ : ∃ u : List UInt8 → Bool, u = unhexB := ⟨_, rfl⟩
  obtain ⟨uName, huName⟩ : ∃ u : List UInt8 → Bool, u = nameF := ⟨_, rfl⟩
  have hG : TblOK Tryd.prog [(27, φNumber uNumber uNumber1), (22, φVerb uVerb), (28, φUnhex uUnhex uUnhex1), (29, φName uName)] := ⟨(by rw [huNumber, huNumber1]; exact φNumber_ok), (by rw [huVerb]; exact φVerb_ok), (by rw [huUnhex, huUnhex1]; exact φUnhex_ok), (by rw [huName]; exact φName_ok), trivial⟩
  obtain ⟨es, hes⟩ : ∃ z, z = strDs ws := ⟨_, rfl⟩
  obtain ⟨w0, hw0⟩ : ∃ z, z = ws.getD 0 [] := ⟨_, rfl⟩
  obtain ⟨w1, hw1⟩ : ∃ z, z = ws.getD 1 [] := ⟨_, rfl⟩
  obtain ⟨w2, hw2⟩ : ∃ z, z = ws.getD 2 [] := ⟨_, rfl⟩
  obtain ⟨w3, hw3⟩ : ∃ z, z = ws.getD 3 [] := ⟨_, rfl⟩
  obtain ⟨w4, hw4⟩ : ∃ z, z = ws.getD 4 [] := ⟨_, rfl⟩
  obtain ⟨Z, hZ⟩ : ∃ z, z = parsedF ws := ⟨_, rfl⟩
  rw [← hes, ← hZ]
  have hel : es.length = ws.length := by rw [hes]; simp [strDs]
  unfold parsedF at hZ
  rw [← hw0, ← hw1, ← hw2, ← hw3, ← hw4] at hZ
  refine ESpec.enter Tryd.func16 (by kernel_rfl) rfl (Nat.le_of_ble_eq_true rfl) fun hok cx hnt hfr => ?_
  obtain ⟨F, hF⟩ := real_ex
  refine AK.runT hF tabOK hmix hnt hfr false _ hG ?_
  conv => arg 4; cbv
  have s0 : F .strA es 0 0 = w0 := by rw [hes, hw0]; exact t_strG hF ws 0
  have s1 : F .strA es 1 0 = w1 := by rw [hes, hw1]; exact t_strG hF ws 1
  have s2 : F .strA es 2 0 = w2 := by rw [hes, hw2]; exact t_strG hF ws 2
  have s3 : F .strA es 3 0 = w3 := by rw [hes, hw3]; exact t_strG hF ws 3
  have s4 : F .strA es 4 0 = w4 := by rw [hes, hw4]; exact t_strG hF ws 4
  have n0 : ∀ j : Nat, j < ws.length → F .hasD es (j : Int) [.str] = true := fun j hj => by rw [hes]; exact t_hasG hF hj
  rw [s0]
  refine AKt.node (fun hb => ?_) (fun hb => ?_)
  · have h3 : ws.length < 3 := by simp only [hF, f_ltI, f_leI, f_eqI, f_eqS, f_eqB, f_not, f_andB, f_orB, f_lenS, f_lenD, f_hasS, f_atS, f_hasC, f_subS, f_hasCat, f_app, f_wrap, f_add, f_sub, f_mul, f_appD, f_fits, f_hasV, f_subV, decide_eq_true_eq, decide_eq_false_iff_not, beq_iff_eq, beq_eq_false_iff_ne, Bool.and_eq_true, Bool.and_eq_false_iff, Bool.not_eq_true, Bool.not_eq_false, Bool.not_eq_eq_eq_not, Bool.not_true, Bool.not_false] at hb; omega
    rw [if_pos h3] at hZ
    repeat' (first | with_reducible refine AKt.have ?_ | with_reducible refine AKt.tt ?_ | with_reducible refine AKt.ff ?_ | with_reducible refine AKt.yes (by assumption) ?_ | with_reducible refine AKt.no (by assumption) ?_ | with_reducible refine AKt.node (fun hb => ?_) (fun hb => ?_) | with_reducible refine AKt.need ?_ (fun hb => ?_) | with_reducible refine AKt.leaf ?_ | ((with_reducible show _ = true); assumption))
    refine AKp.doneE tabOK hfr (by rfl) ?_
    show _ = _
    simp only [tupAV]
    rw [hZ]
    rfl
  have h3 : ¬ ws.length < 3 := by simp only [hF, f_ltI, f_leI, f_eqI, f_eqS, f_eqB, f_not, f_andB, f_orB, f_lenS, f_lenD, f_hasS, f_atS, f_hasC, f_subS, f_hasCat, f_app, f_wrap, f_add, f_sub, f_mul, f_appD, f_fits, f_hasV, f_subV, decide_eq_true_eq, decide_eq_false_iff_not, beq_iff_eq, beq_eq_false_iff_ne, Bool.and_eq_true, Bool.and_eq_false_iff, Bool.not_eq_true, Bool.not_eq_false, Bool.not_eq_eq_eq_not, Bool.not_true, Bool.not_false] at hb; omega
  rw [if_neg h3] at hZ
  have k0 : F .hasD es 0 [.str] = true := n0 0 (by omega)
  have k1 : F .hasD es 1 [.str] = true := n0 1 (by omega)
  have k2 : F .hasD es 2 [.str] = true := n0 2 (by omega)
  repeat' (first | with_reducible refine AKt.have ?_ | with_reducible refine AKt.tt ?_ | with_reducible refine AKt.ff ?_ | with_reducible refine AKt.yes (by assumption) ?_ | with_reducible refine AKt.no (by assumption) ?_ | with_reducible refine AKt.node (fun hb => ?_) (fun hb => ?_) | with_reducible refine AKt.need ?_ (fun hb => ?_) | with_reducible refine AKt.leaf ?_ | ((with_reducible show _ = true); assumption))
  obtain ⟨ok0, hok0⟩ : ∃ z, z = uNumber1 w0 0 999999999 := ⟨_, rfl⟩
  obtain ⟨at0, hat0⟩ : ∃ z, z = uNumber w0 0 999999999 := ⟨_, rfl⟩
  rw [← hok0, ← hat0]
  refine AKp.enterLoop 8 ?_
  conv => arg 7; cbv
  refine AKl.invT hF tabOK hmix hnt hfr false _ hG (fun n vs hs => ∃ (k : Nat) (kv kd : Int), k + n = 8 ∧ 1 ≤ k ∧ kv = k ∧ kd = (if kindS w1 < k then kindS w1 else 0) ∧ vs = [(7, .d (.s (.int .i64 kv)))] ∧ hs = [(1, .cs 25 [.d (.s (.int .i64 at0)), .d (.s (.int .i64 kd)), .d (.s (.int .i64 0)), .d (.s (.str [])), .d (.s (.int .i64 0)), .d (.s (.int .i64 0)), .d (.s (.int .u64 0))]), (0, .cs 25 [.d (.s (.int .i64 0)), .d (.s (.int .i64 0)), .d (.s (.int .i64 0)), .d (.s (.str [])), .d (.s (.int .i64 0)), .d (.s (.int .i64 0)), .d (.s (.int .u64 0))])]) 7 ⟨1, _, 0, by omega, by omega, rfl, by have := (kindS_le w1).1; split <;> omega, rfl, rfl⟩ (by repeat (first | exact True.intro | refine ⟨⟨rfl, rfl⟩, ?_⟩)) (by repeat (first | exact True.intro | refine ⟨⟨rfl, rfl, rfl⟩, ?_⟩)) ?_
  rintro J n vs hs hJ ⟨k, kv, kd, hk, hk1, hkv, hkd, rfl, rfl⟩
  have kl := kindS_le w1
  have hu : uVerb kv = verbF kv := by subst huNumber huNumber1 huVerb huUnhex huUnhex1 huName; rfl
  have hkk : ∀ h : k ≤ 7, (w1 = verbF kv ↔ kindS w1 = k) := fun h => by rw [hkv]; exact kindS_iff w1 k hk1 h
  obtain ⟨vb, hvb⟩ : ∃ z, z = verbF kv := ⟨_, rfl⟩
  rw [← hvb] at hu hkk
  conv => arg 4; cbv
  rw [s1, hu]
  refine AKt.node (fun hb1 => ?_) (fun hb1 => ?_)
  · have hle : k ≤ 7 := by simp only [hF, f_ltI, f_leI, f_eqI, f_eqS, f_eqB, f_not, f_andB, f_orB, f_lenS, f_lenD, f_hasS, f_atS, f_hasC, f_subS, f_hasCat, f_app, f_wrap, f_add, f_sub, f_mul, f_appD, f_fits, f_hasV, f_subV, decide_eq_true_eq, decide_eq_false_iff_not, beq_iff_eq, beq_eq_false_iff_ne, Bool.and_eq_true, Bool.and_eq_false_iff, Bool.not_eq_true, Bool.not_eq_false, Bool.not_eq_eq_eq_not, Bool.not_true, Bool.not_false] at hb1; omega
    refine AKt.need k1 fun _ => ?_
    refine AKt.have ?_
    refine AKt.node (fun hb2 => ?_) (fun hb2 => ?_)
    · have he := (hkk hle).1 (eqS1 hF hb2)
      repeat' (first | with_reducible refine AKt.have ?_ | with_reducible refine AKt.tt ?_ | with_reducible refine AKt.ff ?_ | with_reducible refine AKt.yes (by assumption) ?_ | with_reducible refine AKt.no (by assumption) ?_ | with_reducible refine AKt.node (fun hb => ?_) (fun hb => ?_) | with_reducible refine AKt.need ?_ (fun hb => ?_) | with_reducible refine AKt.leaf ?_ | ((with_reducible show _ = true); assumption))
      refine AKp.again _ hfr (by repeat (first | exact True.intro | refine ⟨⟨rfl, rfl⟩, ?_⟩)) (by repeat (first | exact True.intro | refine ⟨⟨rfl, rfl, rfl⟩, ?_⟩)) (hJ (n - 1) _ _ (by omega) ⟨k + 1, _, kv, by omega, by omega, inc_i hF hkv (by omega), by rw [if_pos (by omega)]; omega, rfl, rfl⟩)
    · have he : ¬ kindS w1 = k := fun h => eqS0 hF hb2 ((hkk hle).2 h)
      repeat' (first | with_reducible refine AKt.have ?_ | with_reducible refine AKt.tt ?_ | with_reducible refine AKt.ff ?_ | with_reducible refine AKt.yes (by assumption) ?_ | with_reducible refine AKt.no (by assumption) ?_ | with_reducible refine AKt.node (fun hb => ?_) (fun hb => ?_) | with_reducible refine AKt.need ?_ (fun hb => ?_) | with_reducible refine AKt.leaf ?_ | ((with_reducible show _ = true); assumption))
      refine AKp.again _ hfr (by repeat (first | exact True.intro | refine ⟨⟨rfl, rfl⟩, ?_⟩)) (by repeat (first | exact True.intro | refine ⟨⟨rfl, rfl, rfl⟩, ?_⟩)) (hJ (n - 1) _ _ (by omega) ⟨k + 1, _, kd, by omega, by omega, inc_i hF hkv (by omega), by rw [hkd]; split <;> split <;> omega, rfl, rfl⟩)
  · have hgt : ¬ k ≤ 7 := by simp only [hF, f_ltI, f_leI, f_eqI, f_eqS, f_eqB, f_not, f_andB, f_orB, f_lenS, f_lenD, f_hasS, f_atS, f_hasC, f_subS, f_hasCat, f_app, f_wrap, f_add, f_sub, f_mul, f_appD, f_fits, f_hasV, f_subV, decide_eq_true_eq, decide_eq_false_iff_not, beq_iff_eq, beq_eq_false_iff_ne, Bool.and_eq_true, Bool.and_eq_false_iff, Bool.not_eq_true, Bool.not_eq_false, Bool.not_eq_eq_eq_not, Bool.not_true, Bool.not_false] at hb1; omega
    have hkd2 : kd = kindS w1 := by rw [hkd, if_pos (by omega)]
    clear hkk hu hvb vb hkd hJ
    rw [← hkd2] at hZ kl
    rw [s2, s3, s4]
    rw [← hel] at hZ h3
    have n1 : ∀ j : Nat, j < es.length → F .hasD es (j : Int) [.str] = true := fun j hj => n0 j (by omega)
    clear n0
    clear hkd2 hel hes hw0 hw1 hw2 hw3 hw4 hok hk hk1 hkv hb1 hgt
    repeat' (first | with_reducible refine AKt.have ?_ | with_reducible refine AKt.tt ?_ | with_reducible refine AKt.ff ?_ | with_reducible refine AKt.yes (by assumption) ?_ | with_reducible refine AKt.no (by assumption) ?_ | with_reducible refine AKt.node (fun hb => ?_) (fun hb => ?_) | with_reducible refine AKt.need ?_ (fun hb => ?_) | with_reducible refine AKt.leaf ?_ | ((with_reducible show _ = true); assumption))
    all_goals first
      | (refine n1 3 ?_
         clear n1
         simp only [hF, f_ltI, f_leI, f_eqI, f_eqS, f_eqB, f_not, f_andB, f_orB, f_lenS, f_lenD, f_hasS, f_atS, f_hasC, f_subS, f_hasCat, f_app, f_wrap, f_add, f_sub, f_mul, f_appD, f_fits, f_hasV, f_subV, decide_eq_true_eq, decide_eq_false_iff_not, beq_iff_eq, beq_eq_false_iff_ne, Bool.and_eq_true, Bool.and_eq_false_iff, Bool.not_eq_true, Bool.not_eq_false, Bool.not_eq_eq_eq_not, Bool.not_true, Bool.not_false] at *
         omega)
      | (refine n1 4 ?_
         clear n1
         simp only [hF, f_ltI, f_leI, f_eqI, f_eqS, f_eqB, f_not, f_andB, f_orB, f_lenS, f_lenD, f_hasS, f_atS, f_hasC, f_subS, f_hasCat, f_app, f_wrap, f_add, f_sub, f_mul, f_appD, f_fits, f_hasV, f_subV, decide_eq_true_eq, decide_eq_false_iff_not, beq_iff_eq, beq_eq_false_iff_ne, Bool.and_eq_true, Bool.and_eq_false_iff, Bool.not_eq_true, Bool.not_eq_false, Bool.not_eq_eq_eq_not, Bool.not_true, Bool.not_false] at *
         omega)
      | (refine AKp.doneE tabOK hfr (by rfl) ?_
         show _ = _
         conv => lhs; cbv
         clear n1
         subst hok0 hat0
         subst huNumber huNumber1 huVerb huUnhex huUnhex1 huName
         clear hG s0 s1 s2 s3 s4 k0 k1 k2 h3
         simp only [hF, f_ltI, f_leI, f_eqI, f_eqS, f_eqB, f_not, f_andB, f_orB, f_lenS, f_lenD, f_hasS, f_atS, f_hasC, f_subS, f_hasCat, f_app, f_wrap, f_add, f_sub, f_mul, f_appD, f_fits, f_hasV, f_subV, decide_eq_true_eq, decide_eq_false_iff_not, beq_iff_eq, beq_eq_false_iff_ne, Bool.and_eq_true, Bool.and_eq_false_iff, Bool.not_eq_true, Bool.not_eq_false, Bool.not_eq_eq_eq_not, Bool.not_true, Bool.not_false] at *
         subst hZ
         first
           | (simp [Tl.dat, *]; done)
           | (simp [Tl.dat, *]; grind))
theorem parsedD_spec (es : List Dat) (h : isStrs es = true) : ESpec Tryd.prog 16 [.d (.view 1 es)] (fun x => x = .tup [.d (parsedF (unStr es)).1.dat, .d (.s (.bool (parsedF (unStr es)).2))]) := by
  have := parsed_spec (unStr es)
  rwa [strDs_unStr h] at this
def φParsed (p : List Dat → Bool) (ua uk ui : List Dat → Int) (ul : List Dat → List UInt8) (us uw ud : List Dat → Int) (ub : List Dat → Bool) : List AV → Option (Bool × AV)
  | [.d (.view 1 es)] => some (p es, .tup [.d (.agg [.s (.int .i64 (ua es)), .s (.int .i64 (uk es)), .s (.int .i64 (ui es)), .s (.str (ul es)), .s (.int .i64 (us es)), .s (.int .i64 (uw es)), .s (.int .u64 (ud es))]), .d (.s (.bool (ub es)))])
  | _ => none
theorem φParsed_ok : SpOK Tryd.prog 16 (φParsed (isStrs) (fun es => (parsedF (unStr es)).1.a) (fun es => (parsedF (unStr es)).1.k) (fun es => (parsedF (unStr es)).1.i) (fun es => (parsedF (unStr es)).1.lv) (fun es => (parsedF (unStr es)).1.s) (fun es => (parsedF (unStr es)).1.w) (fun es => (parsedF (unStr es)).1.d) (fun es => (parsedF (unStr es)).2)) := by
  intro xs b x h hb
  unfold φParsed at h
  split at h
  · simp only [Option.some.injEq, Prod.mk.injEq] at h
    obtain ⟨rfl, rfl⟩ := h
    exact parsedD_spec _ hb
  · cases h
end Go.Proofs.YtpoebpggapfooaaDoor

/- A line is read; what is told is written. -/
namespace Go.Proofs.YtpoebpggapfooaaDoor
open Go Go.Proofs Go.Ua Go.Extern
set_option linter.unusedVariables false
set_option linter.unusedSimpArgs false
set_option maxRecDepth 10000

def zeroT : Tl := ⟨0, 0, 0, [], 0, 0, 0⟩
def okR (s : List UInt8) : Bool := (parsedF (wordsF s)).2 && decide ((parsedF (wordsF s)).1.line = s)
def readT (s : List UInt8) : Tl := if okR s = true then (parsedF (wordsF s)).1 else zeroT
def readE (s : List UInt8) : Int := if okR s = true then 0 else 2
def le20 (s : List UInt8) : Bool := decide (s.length ≤ 25000)

theorem words_le {s p : List UInt8} (h : p ∈ wordsF s) : p.length ≤ s.length := cutF_all (List.mem_filter.1 h).1
theorem getD_le {ws : List (List UInt8)} {n j : Nat} (h : ∀ p, p ∈ ws → p.length ≤ n) : (ws.getD j []).length ≤ n := by
  rw [List.getD_eq_getElem?_getD]
  cases hj : ws[j]? with
  | none => simp
  | some p => exact h p (List.mem_of_getElem? hj)
theorem parsed_lv {ws : List (List UInt8)} {n : Nat} (h : ∀ p, p ∈ ws → p.length ≤ n) : (parsedF ws).1.lv.length ≤ n := by
  have := getD_le (j := 3) h
  unfold parsedF
  repeat' split
  all_goals first | exact Nat.zero_le _ | exact this

set_option maxRecDepth 10000 in
theorem Read_spec (s : List UInt8) (hs : le20 s = true) : ESpec Tryd.prog 9 [.d (.s (.str s))] (fun x => x = .tup [.d (readT s).dat, .d (.s (.int .i64 (readE s)))]) := by
  obtain ⟨uWords, huWords⟩ : ∃ u : List UInt8 → Bool, u = le32 := ⟨_, rfl⟩
  obtain ⟨uWords1, huWords1⟩ : ∃ u : List UInt8 → List Dat, u = fun w => strDs (wordsF w) := ⟨_, rfl⟩
  obtain ⟨uParsed, huParsed⟩ : ∃ u : List Dat → Bool, u = isStrs := ⟨_, rfl⟩
  obtain ⟨uParsed1, huParsed1⟩ : ∃ u : List Dat → Int, u = fun es => (parsedF (unStr es)).1.a := ⟨_, rfl⟩
  obtain ⟨uParsed2, huParsed2⟩ : ∃ u : List Dat → Int, u = fun es => (parsedF (unStr es)).1.k := ⟨_, rfl⟩
  obtain ⟨uParsed3, huParsed3⟩ : ∃ u : List Dat → Int, u = fun es => (parsedF (unStr es)).1.i := ⟨_, rfl⟩
  obtain ⟨uParsed4, huParsed4⟩ : ∃ u : List Dat → List UInt8, u = fun es => (parsedF (unStr es)).1.lv := ⟨_, rfl⟩
  obtain ⟨uParsed5, huParsed5⟩ : ∃ u : List Dat → Int, u = fun es => (parsedF (unStr es)).1.s := ⟨_, rfl⟩
  obtain ⟨uParsed6, huParsed6⟩ : ∃ u : List Dat → Int, u = fun es => (parsedF (unStr es)).1.w := ⟨_, rfl⟩
  obtain ⟨uParsed7, huParsed7⟩ : ∃ u : List Dat → Int, u = fun es => (parsedF (unStr es)).1.d := ⟨_, rfl⟩
  obtain ⟨uParsed8, huParsed8⟩ : ∃ u : List Dat → Bool, u = fun es => (parsedF (unStr es)).2 := ⟨_, rfl⟩
  obtain ⟨uLine, huLine⟩ : ∃ u : List UInt8 → Bool, u = short := ⟨_, rfl⟩
  obtain ⟨uLine1, huLine1⟩ : ∃ u : Int → Int → Int → List UInt8 → Int → Int → Int → List UInt8, u = lineF := ⟨_, rfl⟩
  have hG : TblOK Tryd.prog [(17, φWords uWords uWords1), (16, φParsed uParsed uParsed1 uParsed2 uParsed3 uParsed4 uParsed5 uParsed6 uParsed7 uParsed8), (11, φLine uLine uLine1)] := ⟨(by rw [huWords, huWords1]; exact φWords_ok), (by rw [huParsed, huParsed1, huParsed2, huParsed3, huParsed4, huParsed5, huParsed6, huParsed7, huParsed8]; exact φParsed_ok), (by rw [huLine, huLine1]; exact φLine_ok), trivial⟩
  have hs' : s.length ≤ 25000 := of_decide_eq_true hs
  obtain ⟨P, hP⟩ : ∃ z, z = parsedF (wordsF s) := ⟨_, rfl⟩
  have hlv : P.1.lv.length ≤ 25000 := by rw [hP]; exact parsed_lv fun p hp => Nat.le_trans (words_le hp) hs'
  have q0 : uWords s = true := by subst huWords huWords1 huParsed huParsed1 huParsed2 huParsed3 huParsed4 huParsed5 huParsed6 huParsed7 huParsed8 huLine huLine1; exact decide_eq_true (by omega)
  have q1 : uParsed (uWords1 s) = true := by subst huWords huWords1 huParsed huParsed1 huParsed2 huParsed3 huParsed4 huParsed5 huParsed6 huParsed7 huParsed8 huLine huLine1; exact isStrs_strDs _
  have qq : ∀ es, es = uWords1 s → unStr es = wordsF s := fun es h => by rw [h]; subst huWords1; exact unStr_strDs _
  obtain ⟨es, hes⟩ : ∃ z, z = uWords1 s := ⟨_, rfl⟩
  have qe := qq es hes
  rw [← hes] at q1
  have e1 : uParsed1 es = P.1.a := by rw [huParsed1, hP, ← qe]
  have e2 : uParsed2 es = P.1.k := by rw [huParsed2, hP, ← qe]
  have e3 : uParsed3 es = P.1.i := by rw [huParsed3, hP, ← qe]
  have e4 : uParsed4 es = P.1.lv := by rw [huParsed4, hP, ← qe]
  have e5 : uParsed5 es = P.1.s := by rw [huParsed5, hP, ← qe]
  have e6 : uParsed6 es = P.1.w := by rw [huParsed6, hP, ← qe]
  have e7 : uParsed7 es = P.1.d := by rw [huParsed7, hP, ← qe]
  have e8 : uParsed8 es = P.2 := by rw [huParsed8, hP, ← qe]
  have q2 : uLine (uParsed4 es) = true := by rw [e4, huLine]; exact decide_eq_true (by omega)
  have q3 : uLine1 (uParsed1 es) (uParsed2 es) (uParsed3 es) (uParsed4 es) (uParsed5 es) (uParsed6 es) (uParsed7 es) = P.1.line := by rw [e1, e2, e3, e4, e5, e6, e7, huLine1]; rfl
  obtain ⟨ln, hln⟩ : ∃ z, z = P.1.line := ⟨_, rfl⟩
  rw [← hln] at q3
  obtain ⟨pb, hpb⟩ : ∃ z, z = P.2 := ⟨_, rfl⟩
  rw [← hpb] at e8
  have hok : okR s = (pb && decide (ln = s)) := by rw [okR, ← hP, hpb, hln]
  unfold readT readE
  rw [hok, ← hP]
  clear hok
  refine ESpec.enter Tryd.func9 (by kernel_rfl) rfl (Nat.le_of_ble_eq_true rfl) fun hok cx hnt hfr => ?_
  obtain ⟨F, hF⟩ := real_ex
  refine AK.runT hF tabOK hmix hnt hfr false _ hG ?_
  conv => arg 4; cbv
  rw [← hes, e8, q3]
  repeat' (first | with_reducible refine AKt.have ?_ | with_reducible refine AKt.tt ?_ | with_reducible refine AKt.ff ?_ | with_reducible refine AKt.yes (by assumption) ?_ | with_reducible refine AKt.no (by assumption) ?_ | with_reducible refine AKt.node (fun hb => ?_) (fun hb => ?_) | with_reducible refine AKt.need ?_ (fun hb => ?_) | with_reducible refine AKt.leaf ?_ | ((with_reducible show _ = true); assumption))
  all_goals
    refine AKp.doneE tabOK hfr (by rfl) ?_
    show _ = _
    conv => lhs; cbv
    try simp only [e1, e2, e3, e4, e5, e6, e7]
    clear qe e1 e2 e3 e4 e5 e6 e7 e8 qq hes hpb hln
    simp only [hF, f_ltI, f_leI, f_eqI, f_eqS, f_eqB, f_not, f_andB, f_orB, f_lenS, f_lenD, f_hasS, f_atS, f_hasC, f_subS, f_hasCat, f_app, f_wrap, f_add, f_sub, f_mul, f_appD, f_fits, f_hasV, f_subV, decide_eq_true_eq, decide_eq_false_iff_not, beq_iff_eq, beq_eq_false_iff_ne, Bool.and_eq_true, Bool.and_eq_false_iff, Bool.not_eq_true, Bool.not_eq_false, Bool.not_eq_eq_eq_not, Bool.not_true, Bool.not_false] at *
    simp [Tl.dat, zeroT, *]
def φRead (p : List UInt8 → Bool) (ua uk ui : List UInt8 → Int) (ul : List UInt8 → List UInt8) (us uw ud ue : List UInt8 → Int) : List AV → Option (Bool × AV)
  | [.d (.s (.str s))] => some (p s, .tup [.d (.agg [.s (.int .i64 (ua s)), .s (.int .i64 (uk s)), .s (.int .i64 (ui s)), .s (.str (ul s)), .s (.int .i64 (us s)), .s (.int .i64 (uw s)), .s (.int .u64 (ud s))]), .d (.s (.int .i64 (ue s)))])
  | _ => none
theorem φRead_ok : SpOK Tryd.prog 9 (φRead (le20) (fun s => (readT s).a) (fun s => (readT s).k) (fun s => (readT s).i) (fun s => (readT s).lv) (fun s => (readT s).s) (fun s => (readT s).w) (fun s => (readT s).d) (readE)) := by
  intro xs b x h hb
  unfold φRead at h
  split at h
  · simp only [Option.some.injEq, Prod.mk.injEq] at h
    obtain ⟨rfl, rfl⟩ := h
    exact Read_spec _ hb
  · cases h
end Go.Proofs.YtpoebpggapfooaaDoor

/- What is told is written. -/
namespace Go.Proofs.YtpoebpggapfooaaDoor
open Go Go.Proofs Go.Ua Go.Extern
set_option linter.unusedVariables false
set_option linter.unusedSimpArgs false
set_option maxRecDepth 10000

theorem line_len {a k i : Int} {lv : List UInt8} {s w d : Int} (h1 : a ≤ 9223372036854775807) (h3 : i ≤ 9223372036854775807) (h5 : s ≤ 9223372036854775807) (h6 : w ≤ 9223372036854775807) {n : Nat} (hn : 21 ≤ n) (hlv : lv.length ≤ n) :
    (lineF a k i lv s w d).length ≤ (n + 1) * 5 := by
  have d1 := digI_len h1
  have d3 := digI_len h3
  have d5 := digI_len h5
  have d6 := digI_len h6
  have dv := verbF_len k
  have dh : (hexI d).length ≤ 21 := by unfold hexI; rw [hexN_len]; decide
  have mm : ∀ (l : List (List UInt8)), (∀ x, x ∈ l → x = digI a ∨ x = verbF k ∨ x = digI i ∨ x = lv ∨ x = digI s ∨ x = digI w ∨ x = hexI d) → ∀ x, x ∈ l → x.length ≤ n := by
    intro l h x hx
    rcases h x hx with rfl | rfl | rfl | rfl | rfl | rfl | rfl <;> omega
  have key : ∀ l : List (List UInt8), l.length ≤ 5 → (∀ x, x ∈ l → x = digI a ∨ x = verbF k ∨ x = digI i ∨ x = lv ∨ x = digI s ∨ x = digI w ∨ x = hexI d) → (Lib.join l [32]).length ≤ (n + 1) * 5 := fun l hl h =>
    Nat.le_trans (join32_len (mm l h)) (Nat.mul_le_mul_left _ hl)
  unfold lineF lineW
  repeat' split
  all_goals exact key _ (by simp) (by simp)

/-- It is told as it is read. -/
def okW (t : Tl) : Bool := decide (readE t.line = 0) && (decide ((readT t.line).a = t.a) && (decide ((readT t.line).k = t.k) && (decide ((readT t.line).i = t.i) && (decide ((readT t.line).lv = t.lv) && (decide ((readT t.line).s = t.s) && (decide ((readT t.line).w = t.w) && decide ((readT t.line).d = t.d)))))))
def writeS (t : Tl) : List UInt8 := if okW t = true then t.line else []
def writeE (t : Tl) : Int := if okW t = true then 0 else 2
def lv3 (lv : List UInt8) : Bool := decide (lv.length ≤ 4000)

set_option maxRecDepth 10000 in
theorem Write_spec (a k i : Int) (lv : List UInt8) (s w d : Int) (hlv : lv3 lv = true) :
    ESpec Tryd.prog 7 [.d (.agg [.s (.int .i64 a), .s (.int .i64 k), .s (.int .i64 i), .s (.str lv), .s (.int .i64 s), .s (.int .i64 w), .s (.int .u64 d)])] (fun x => x = .tup [.d (.s (.str (writeS ⟨a, k, i, lv, s, w, d⟩))), .d (.s (.int .i64 (writeE ⟨a, k, i, lv, s, w, d⟩)))]) := by
  obtain ⟨uLine, huLine⟩ : ∃ u : List UInt8 → Bool, u = short := ⟨_, rfl⟩
  obtain ⟨uLine1, huLine1⟩ : ∃ u : Int → Int → Int → List UInt8 → Int → Int → Int → List UInt8, u = lineF := ⟨_, rfl⟩
  obtain ⟨uRead, huRead⟩ : ∃ u : List UInt8 → Bool, u = le20 := ⟨_, rfl⟩
  obtain ⟨uRead1, huRead1⟩ : ∃ u : List UInt8 → Int, u = fun s => (readT s).a := ⟨_, rfl⟩
  obtain ⟨uRead2, huRead2⟩ : ∃ u : List UInt8 → Int, u = fun s => (readT s).k := ⟨_, rfl⟩
  obtain ⟨uRead3, huRead3⟩ : ∃ u : List UInt8 → Int, u = fun s => (readT s).i := ⟨_, rfl⟩
  obtain ⟨uRead4, huRead4⟩ : ∃ u : List UInt8 → List UInt8, u = fun s => (readT s).lv := ⟨_, rfl⟩
  obtain ⟨uRead5, huRead5⟩ : ∃ u : List UInt8 → Int, u = fun s => (readT s).s := ⟨_, rfl⟩
  obtain ⟨uRead6, huRead6⟩ : ∃ u : List UInt8 → Int, u = fun s => (readT s).w := ⟨_, rfl⟩
  obtain ⟨uRead7, huRead7⟩ : ∃ u : List UInt8 → Int, u = fun s => (readT s).d := ⟨_, rfl⟩
  obtain ⟨uRead8, huRead8⟩ : ∃ u : List UInt8 → Int, u = readE := ⟨_, rfl⟩
  have hG : TblOK Tryd.prog [(11, φLine uLine uLine1), (9, φRead uRead uRead1 uRead2 uRead3 uRead4 uRead5 uRead6 uRead7 uRead8)] := ⟨(by rw [huLine, huLine1]; exact φLine_ok), (by rw [huRead, huRead1, huRead2, huRead3, huRead4, huRead5, huRead6, huRead7, huRead8]; exact φRead_ok), trivial⟩
  obtain ⟨zs, hzs⟩ : ∃ z, z = writeS ⟨a, k, i, lv, s, w, d⟩ := ⟨_, rfl⟩
  obtain ⟨ze, hze⟩ : ∃ z, z = writeE ⟨a, k, i, lv, s, w, d⟩ := ⟨_, rfl⟩
  rw [← hzs, ← hze]
  have hl3 : lv.length ≤ 4000 := of_decide_eq_true hlv
  refine ESpec.enter Tryd.func7 (by kernel_rfl) rfl (Nat.le_of_ble_eq_true rfl) fun hok cx hnt hfr => ?_
  obtain ⟨F, hF⟩ := real_ex
  refine AK.runT hF tabOK hmix hnt hfr false _ hG ?_
  conv => arg 4; cbv
  have o1 : a ≤ 9223372036854775807 := hok.1.1.2
  have o3 : i ≤ 9223372036854775807 := hok.1.2.2.1.2
  have o5 : s ≤ 9223372036854775807 := hok.1.2.2.2.2.1.2
  have o6 : w ≤ 9223372036854775807 := hok.1.2.2.2.2.2.1.2
  have hll := line_len (k := k) (d := d) o1 o3 o5 o6 (n := 4000) (by decide) hl3
  have q1 : uLine lv = true := by subst huLine huLine1 huRead huRead1 huRead2 huRead3 huRead4 huRead5 huRead6 huRead7 huRead8; exact decide_eq_true (by omega)
  obtain ⟨ln, hln⟩ : ∃ z, z = uLine1 a k i lv s w d := ⟨_, rfl⟩
  rw [← hln]
  have hln2 : (Tl.mk a k i lv s w d).line = ln := by rw [hln, huLine1]; rfl
  have hlen : ln.length ≤ 25000 := by rw [← hln2]; exact Nat.le_trans hll (by decide)
  have q2 : uRead ln = true := by subst huLine huLine1 huRead huRead1 huRead2 huRead3 huRead4 huRead5 huRead6 huRead7 huRead8; exact decide_eq_true (by omega)
  unfold writeS okW at hzs
  unfold writeE okW at hze
  rw [hln2] at hzs hze
  repeat' (first | with_reducible refine AKt.have ?_ | with_reducible refine AKt.tt ?_ | with_reducible refine AKt.ff ?_ | with_reducible refine AKt.yes (by assumption) ?_ | with_reducible refine AKt.no (by assumption) ?_ | with_reducible refine AKt.node (fun hb => ?_) (fun hb => ?_) | with_reducible refine AKt.need ?_ (fun hb => ?_) | with_reducible refine AKt.leaf ?_ | ((with_reducible show _ = true); assumption))
  all_goals
    refine AKp.doneE tabOK hfr (by rfl) ?_
    show _ = _
    simp only [tupAV]
    rw [hzs, hze]
    clear hzs hze hln hln2 hok hll
    subst huLine huLine1 huRead huRead1 huRead2 huRead3 huRead4 huRead5 huRead6 huRead7 huRead8
    simp only [hF, f_ltI, f_leI, f_eqI, f_eqS, f_eqB, f_not, f_andB, f_orB, f_lenS, f_lenD, f_hasS, f_atS, f_hasC, f_subS, f_hasCat, f_app, f_wrap, f_add, f_sub, f_mul, f_appD, f_fits, f_hasV, f_subV, decide_eq_true_eq, decide_eq_false_iff_not, beq_iff_eq, beq_eq_false_iff_ne, Bool.and_eq_true, Bool.and_eq_false_iff, Bool.not_eq_true, Bool.not_eq_false, Bool.not_eq_eq_eq_not, Bool.not_true, Bool.not_false] at *
    first
      | (simp_all; done)
      | grind
def φWrite (p : List UInt8 → Bool) (u : Int → Int → Int → List UInt8 → Int → Int → Int → List UInt8) (ue : Int → Int → Int → List UInt8 → Int → Int → Int → Int) : List AV → Option (Bool × AV)
  | [.d (.agg [.s (.int .i64 a), .s (.int .i64 k), .s (.int .i64 i), .s (.str lv), .s (.int .i64 s), .s (.int .i64 w), .s (.int .u64 d)])] => some (p lv, .tup [.d (.s (.str (u a k i lv s w d))), .d (.s (.int .i64 (ue a k i lv s w d)))])
  | _ => none
theorem φWrite_ok : SpOK Tryd.prog 7 (φWrite (lv3) (fun a k i lv s w d => writeS ⟨a, k, i, lv, s, w, d⟩) (fun a k i lv s w d => writeE ⟨a, k, i, lv, s, w, d⟩)) := by
  intro xs b x h hb
  unfold φWrite at h
  split at h
  · simp only [Option.some.injEq, Prod.mk.injEq] at h
    obtain ⟨rfl, rfl⟩ := h
    exact Write_spec _ _ _ _ _ _ _ hb
  · cases h
end Go.Proofs.YtpoebpggapfooaaDoor

/- The reference writes. -/
namespace Go.Proofs.YtpoebpggapfooaaDoor
open Go Go.Proofs Go.Ua Go.Extern
set_option linter.unusedVariables false
set_option linter.unusedSimpArgs false
set_option maxRecDepth 10000

def inB3 (n a b : Int) : Bool := decide (a ≤ n) && decide (n ≤ b)
theorem within_spec (n a b : Int) : ESpec Tryd.prog 12 [.d (.s (.int .i64 n)), .d (.s (.int .i64 a)), .d (.s (.int .i64 b))] (fun x => x = .d (.s (.bool (inB3 n a b)))) := by
  refine ESpec.enter Tryd.func12 (by kernel_rfl) rfl (Nat.le_of_ble_eq_true rfl) fun _ cx hnt hfr => ?_
  obtain ⟨F, hF⟩ := real_ex
  refine AK.runT hF tabOK hmix hnt hfr false [] trivial ?_
  conv => arg 4; cbv
  repeat' (first | with_reducible refine AKt.have ?_ | with_reducible refine AKt.tt ?_ | with_reducible refine AKt.ff ?_ | with_reducible refine AKt.yes (by assumption) ?_ | with_reducible refine AKt.no (by assumption) ?_ | with_reducible refine AKt.node (fun hb => ?_) (fun hb => ?_) | with_reducible refine AKt.need ?_ (fun hb => ?_) | with_reducible refine AKt.leaf ?_ | ((with_reducible show _ = true); assumption))
  all_goals
    refine AKp.doneE tabOK hfr (by rfl) ?_
    show _ = _
    simp only [tupAV]
    simp only [hF, f_ltI, f_leI, f_eqI, f_eqS, f_eqB, f_not, f_andB, f_orB, f_lenS, f_lenD, f_hasS, f_atS, f_hasC, f_subS, f_hasCat, f_app, f_wrap, f_add, f_sub, f_mul, f_appD, f_fits, f_hasV, f_subV, decide_eq_true_eq, decide_eq_false_iff_not, beq_iff_eq, beq_eq_false_iff_ne, Bool.and_eq_true, Bool.and_eq_false_iff, Bool.not_eq_true, Bool.not_eq_false, Bool.not_eq_eq_eq_not, Bool.not_true, Bool.not_false] at *
    simp [inB3, *]
def φWithin (u : Int → Int → Int → Bool) : List AV → Option (Bool × AV)
  | [.d (.s (.int .i64 n)), .d (.s (.int .i64 a)), .d (.s (.int .i64 b))] => some (true, .d (.s (.bool (u n a b))))
  | _ => none
theorem φWithin_ok : SpOK Tryd.prog 12 (φWithin (inB3)) := by
  intro xs b x h hb
  unfold φWithin at h
  split at h
  · simp only [Option.some.injEq, Prod.mk.injEq] at h
    obtain ⟨rfl, rfl⟩ := h
    exact within_spec _ _ _
  · cases h

def namedB (i : Int) (lv : List UInt8) : Bool := inB3 i 0 999999999 && nameF lv
def bareB (i : Int) (lv : List UInt8) (s : Int) : Bool := decide (i = 0) && (decide (lv = []) && decide (s = 0))
def validB (t : Tl) : Bool := inB3 t.a 0 999999999 &&
  (if t.k = 1 then namedB t.i t.lv && (inB3 t.s 1 16 && (decide (t.w = 0) && decide (t.d = 0)))
   else if t.k = 2 then namedB t.i t.lv && (decide (t.s = 0) && (inB3 t.w 1 99 && decide (t.d = 0)))
   else if t.k = 3 ∨ t.k = 4 ∨ t.k = 5 then namedB t.i t.lv && (decide (t.s = 0) && (decide (t.w = 0) && decide (t.d = 0)))
   else if t.k = 6 then bareB t.i t.lv t.s && (inB3 t.w 1 99 && decide (t.d = 0))
   else if t.k = 7 then bareB t.i t.lv t.s && decide (t.w = 0) else false)
def refS (t : Tl) : List UInt8 := if validB t = true then t.line else []
def refE (t : Tl) : Int := if validB t = true then 0 else 2

set_option maxHeartbeats 1000000 in
theorem RefWrite_spec (a k i : Int) (lv : List UInt8) (s w d : Int) (hlv : lv3 lv = true) :
    ESpec Tryd.prog 8 [.d (.agg [.s (.int .i64 a), .s (.int .i64 k), .s (.int .i64 i), .s (.str lv), .s (.int .i64 s), .s (.int .i64 w), .s (.int .u64 d)])] (fun x => x = .tup [.d (.s (.str (refS ⟨a, k, i, lv, s, w, d⟩))), .d (.s (.int .i64 (refE ⟨a, k, i, lv, s, w, d⟩)))]) := by
  obtain ⟨uWithin, huWithin⟩ : ∃ u : Int → Int → Int → Bool, u = inB3 := ⟨_, rfl⟩
  obtain ⟨uRefDigits, huRefDigits⟩ : ∃ u : Int → List UInt8, u = fun n => Lib.decDigits n.toNat := ⟨_, rfl⟩
  obtain ⟨uRefName, huRefName⟩ : ∃ u : List UInt8 → Bool, u = nameF := ⟨_, rfl⟩
  obtain ⟨uRefHex, huRefHex⟩ : ∃ u : Int → List UInt8, u = fun n => hexN 16 n.toNat := ⟨_, rfl⟩
  have hG : TblOK Tryd.prog [(12, φWithin uWithin), (13, φRefDigits uRefDigits), (14, φRefName uRefName), (15, φRefHex uRefHex)] := ⟨(by rw [huWithin]; exact φWithin_ok), (by rw [huRefDigits]; exact φRefDigits_ok), (by rw [huRefName]; exact φRefName_ok), (by rw [huRefHex]; exact φRefHex_ok), trivial⟩
  obtain ⟨zs, hzs⟩ : ∃ z, z = refS ⟨a, k, i, lv, s, w, d⟩ := ⟨_, rfl⟩
  obtain ⟨ze, hze⟩ : ∃ z, z = refE ⟨a, k, i, lv, s, w, d⟩ := ⟨_, rfl⟩
  rw [← hzs, ← hze]
  have hl3 : lv.length ≤ 4000 := of_decide_eq_true hlv
  refine ESpec.enter Tryd.func8 (by kernel_rfl) rfl (Nat.le_of_ble_eq_true rfl) fun hok cx hnt hfr => ?_
  obtain ⟨F, hF⟩ := real_ex
  refine AK.runTs hF tabOK hmix hnt hfr [8] false _ hG ?_
  conv => arg 4; cbv
  have o1 : a ≤ 9223372036854775807 := hok.1.1.2
  have o3 : i ≤ 9223372036854775807 := hok.1.2.2.1.2
  have o5 : s ≤ 9223372036854775807 := hok.1.2.2.2.2.1.2
  have o6 : w ≤ 9223372036854775807 := hok.1.2.2.2.2.2.1.2
  have d1 := digI_len o1
  have d3 := digI_len o3
  have d5 := digI_len o5
  have d6 := digI_len o6
  have ea : uRefDigits a = digI a := by subst huWithin huRefDigits huRefName huRefHex; rfl
  have ei : uRefDigits i = digI i := by subst huWithin huRefDigits huRefName huRefHex; rfl
  have es : uRefDigits s = digI s := by subst huWithin huRefDigits huRefName huRefHex; rfl
  have ew : uRefDigits w = digI w := by subst huWithin huRefDigits huRefName huRefHex; rfl
  have eh : uRefHex d = hexI d := by subst huWithin huRefDigits huRefName huRefHex; rfl
  rw [ea, ei]
  obtain ⟨da, hda⟩ : ∃ z, z = digI a := ⟨_, rfl⟩
  obtain ⟨di, hdi⟩ : ∃ z, z = digI i := ⟨_, rfl⟩
  rw [← hda, ← hdi]
  have a1 : F .app [32] di = 32 :: di := by rw [hF]; rfl
  have a2 : F .app (32 :: di) [32] = 32 :: di ++ [32] := by rw [hF]; rfl
  have a3 : F .app (32 :: di ++ [32]) lv = 32 :: di ++ [32] ++ lv := by rw [hF]; rfl
  rw [a1, a2, a3]
  obtain ⟨who, hwho⟩ : ∃ z, z = 32 :: di ++ [32] ++ lv := ⟨_, rfl⟩
  rw [← hwho]
  have bad : validB ⟨a, k, i, lv, s, w, d⟩ = false → zs = [] ∧ ze = 2 := fun h => by rw [hzs, hze, refS, refE, h]; exact ⟨rfl, rfl⟩
  have good : validB ⟨a, k, i, lv, s, w, d⟩ = true → zs = Lib.join (lineW a k i lv s w d) [32] ∧ ze = 0 := fun h => by rw [hzs, hze, refS, refE, h]; exact ⟨rfl, rfl⟩
  unfold validB at bad good
  simp only at bad good
  clear hzs hze
  have hcat : ∀ x y : List UInt8, x.length + y.length ≤ 100000 → F .hasCat x y = true := fun x y h => t_hasCat hF (by omega)
  have hdl : da.length ≤ 21 := by rw [hda]; exact d1
  have hdl2 : di.length ≤ 21 := by rw [hdi]; exact d3
  have hwl : who.length ≤ 4030 := by rw [hwho]; simp; omega
  have c1 : F .hasCat [32] di = true := hcat _ _ (by simp; omega)
  have c2 : F .hasCat (32 :: di) [32] = true := hcat _ _ (by simp; omega)
  have c3 : F .hasCat (32 :: di ++ [32]) lv = true := hcat _ _ (by simp; omega)
  refine exK ?K0 fun kk hK => ?_
  rotate_left
  have rest : ∀ nb wb bb : Bool, F .not (uWithin a 0 999999999) = false → nb = namedB i lv → wb = inB3 w 1 99 → bb = bareB i lv s → AK Tryd.prog cx (finE Tryd.prog Tryd.f8 cx fun x => x = .tup [.d (.s (.str zs)), .d (.s (.int .i64 ze))]) kk
      ⟨[(1, .ptr 0 0 0 7), (2, .d (.s (.str []))), (3, .d (.s (.int .i64 0))), (4, .d (.s (.str da))), (5, .d (.s (.str who))), (6, .d (.s (.bool nb))), (7, .d (.s (.bool wb))), (8, .d (.s (.bool bb)))],
        [(0, .cs 25 [.d (.s (.int .i64 a)), .d (.s (.int .i64 k)), .d (.s (.int .i64 i)), .d (.s (.str lv)), .d (.s (.int .i64 s)), .d (.s (.int .i64 w)), .d (.s (.int .u64 d))])], 1⟩ := ?restg
  repeat' (first | with_reducible refine AKt.have ?_ | with_reducible refine AKt.tt ?_ | with_reducible refine AKt.ff ?_ | with_reducible refine AKt.yes (by assumption) ?_ | with_reducible refine AKt.no (by assumption) ?_ | with_reducible refine AKt.node (fun hb => ?_) (fun hb => ?_) | with_reducible refine AKt.need ?_ (fun hb => ?_) | with_reducible refine AKt.leaf ?_ | ((with_reducible show _ = true); assumption))
  · obtain ⟨g1, g2⟩ := bad (by
      subst huWithin huRefDigits huRefName huRefHex
      simp only [hF, f_ltI, f_leI, f_eqI, f_eqS, f_eqB, f_not, f_andB, f_orB, f_lenS, f_lenD, f_hasS, f_atS, f_hasC, f_subS, f_hasCat, f_app, f_wrap, f_add, f_sub, f_mul, f_appD, f_fits, f_hasV, f_subV, decide_eq_true_eq, decide_eq_false_iff_not, beq_iff_eq, beq_eq_false_iff_ne, Bool.and_eq_true, Bool.and_eq_false_iff, Bool.not_eq_true, Bool.not_eq_false, Bool.not_eq_eq_eq_not, Bool.not_true, Bool.not_false] at hb
      rw [hb]; rfl)
    refine AKp.doneE tabOK hfr (by rfl) ?_
    show _ = _
    simp only [tupAV]
    rw [g1, g2]
  all_goals try (
    show AKp _ _ _ _
    first
      | (refine AKp.join hK _ hfr ?_ ?_ (rest (uRefName lv) (uWithin w 1 99) (F .eqI s 0) (by assumption) ?_ ?_ ?_)
         · repeat (first | exact True.intro | refine ⟨⟨rfl, rfl⟩, ?_⟩))
      | (refine AKp.join hK _ hfr ?_ ?_ (rest (uRefName lv) (uWithin w 1 99) false (by assumption) ?_ ?_ ?_)
         · repeat (first | exact True.intro | refine ⟨⟨rfl, rfl⟩, ?_⟩))
      | (refine AKp.join hK _ hfr ?_ ?_ (rest false (uWithin w 1 99) (F .eqI s 0) (by assumption) ?_ ?_ ?_)
         · repeat (first | exact True.intro | refine ⟨⟨rfl, rfl⟩, ?_⟩))
      | (refine AKp.join hK _ hfr ?_ ?_ (rest false (uWithin w 1 99) false (by assumption) ?_ ?_ ?_)
         · repeat (first | exact True.intro | refine ⟨⟨rfl, rfl⟩, ?_⟩))
    · repeat (first | exact True.intro | refine ⟨⟨rfl, rfl, rfl⟩, ?_⟩)
    all_goals
      clear rest bad good hcat hG
      subst huWithin huRefDigits huRefName huRefHex
      simp only [hF, f_ltI, f_leI, f_eqI, f_eqS, f_eqB, f_not, f_andB, f_orB, f_lenS, f_lenD, f_hasS, f_atS, f_hasC, f_subS, f_hasCat, f_app, f_wrap, f_add, f_sub, f_mul, f_appD, f_fits, f_hasV, f_subV, decide_eq_true_eq, decide_eq_false_iff_not, beq_iff_eq, beq_eq_false_iff_ne, Bool.and_eq_true, Bool.and_eq_false_iff, Bool.not_eq_true, Bool.not_eq_false, Bool.not_eq_eq_eq_not, Bool.not_true, Bool.not_false] at *
      try first
        | (simp [namedB, bareB, *]; done)
        | grind [namedB, bareB]
        | (rw [Bool.eq_iff_iff]; grind [namedB, bareB]))
  case' restg =>
    intro nb wb bb haw hnb hwb hbb
    rw [← hnb, ← hwb, ← hbb] at bad good
    clear hnb hwb hbb
    rw [hK]
    refine AK.runT hF tabOK hmix hnt hfr false _ hG ?_
    conv => arg 4; cbv
    clear hK hok hcat c1 c2 c3
    have hcat : ∀ x y : List UInt8, x.length + y.length ≤ 100000 → F .hasCat x y = true := fun x y h => t_hasCat hF (by omega)
    have dh : (hexI d).length ≤ 21 := by unfold hexI; rw [hexN_len]; decide
    have app := t_app hF
    have j0 : k = 3 → F .inB (F .wrap .i64 (F .sub k 3)) 3 = some 0 := fun e => by rw [e, hF]; decide +kernel
    have j1 : k = 4 → F .inB (F .wrap .i64 (F .sub k 3)) 3 = some 1 := fun e => by rw [e, hF]; decide +kernel
    have j2 : k = 5 → F .inB (F .wrap .i64 (F .sub k 3)) 3 = some 2 := fun e => by rw [e, hF]; decide +kernel
    rw [huWithin] at haw
    have haw : inB3 a 0 999999999 = true := by
      simp only [hF, f_ltI, f_leI, f_eqI, f_eqS, f_eqB, f_not, f_andB, f_orB, f_lenS, f_lenD, f_hasS, f_atS, f_hasC, f_subS, f_hasCat, f_app, f_wrap, f_add, f_sub, f_mul, f_appD, f_fits, f_hasV, f_subV, decide_eq_true_eq, decide_eq_false_iff_not, beq_iff_eq, beq_eq_false_iff_ne, Bool.and_eq_true, Bool.and_eq_false_iff, Bool.not_eq_true, Bool.not_eq_false, Bool.not_eq_eq_eq_not, Bool.not_true, Bool.not_false] at haw
      exact haw
    rw [haw, Bool.true_and] at bad good
    have dv := verbF_len k
    repeat' (first | with_reducible refine AKt.have ?_ | with_reducible refine AKt.tt ?_ | with_reducible refine AKt.ff ?_ | with_reducible refine AKt.yes (by assumption) ?_ | with_reducible refine AKt.no (by assumption) ?_ | with_reducible refine AKt.node (fun hb => ?_) (fun hb => ?_) | with_reducible refine AKt.need ?_ (fun hb => ?_) | with_reducible refine AKt.leaf ?_ | ((with_reducible show _ = true); assumption))
    all_goals try (
      show AKt _ _ _ _
      first
        | rw [j0 (eqI1 hF ‹F .eqI k 3 = true›)]
        | rw [j1 (eqI1 hF ‹F .eqI k 4 = true›)]
        | rw [j2 (eqI1 hF ‹F .eqI k 5 = true›)]
      conv => arg 4; cbv
      repeat' (first | with_reducible refine AKt.have ?_ | with_reducible refine AKt.tt ?_ | with_reducible refine AKt.ff ?_ | with_reducible refine AKt.yes (by assumption) ?_ | with_reducible refine AKt.no (by assumption) ?_ | with_reducible refine AKt.node (fun hb => ?_) (fun hb => ?_) | with_reducible refine AKt.need ?_ (fun hb => ?_) | with_reducible refine AKt.leaf ?_ | ((with_reducible show _ = true); assumption))
      skip)
    all_goals first
      | (with_reducible refine hcat _ _ ?_
         try simp only [es, ew, eh]
         simp only [app, List.length_append, List.length_cons, List.length_nil]
         omega)
      | (refine AKp.doneE tabOK hfr (by rfl) ?_
         show _ = _
         simp only [tupAV]
         try simp only [es, ew, eh]
         clear hcat j0 j1 j2 es ew eh ea ei a1 a2 a3
         subst huWithin hda hdi hwho
         first
           | (have g := bad (by
                clear bad good app
                simp only [hF, f_ltI, f_leI, f_eqI, f_eqS, f_eqB, f_not, f_andB, f_orB, f_lenS, f_lenD, f_hasS, f_atS, f_hasC, f_subS, f_hasCat, f_app, f_wrap, f_add, f_sub, f_mul, f_appD, f_fits, f_hasV, f_subV, decide_eq_true_eq, decide_eq_false_iff_not, beq_iff_eq, beq_eq_false_iff_ne, Bool.and_eq_true, Bool.and_eq_false_iff, Bool.not_eq_true, Bool.not_eq_false, Bool.not_eq_eq_eq_not, Bool.not_true, Bool.not_false] at *
                simp [*])
              rw [g.1, g.2]
              done)
           | (have g := good (by
                clear bad good app
                simp only [hF, f_ltI, f_leI, f_eqI, f_eqS, f_eqB, f_not, f_andB, f_orB, f_lenS, f_lenD, f_hasS, f_atS, f_hasC, f_subS, f_hasCat, f_app, f_wrap, f_add, f_sub, f_mul, f_appD, f_fits, f_hasV, f_subV, decide_eq_true_eq, decide_eq_false_iff_not, beq_iff_eq, beq_eq_false_iff_ne, Bool.and_eq_true, Bool.and_eq_false_iff, Bool.not_eq_true, Bool.not_eq_false, Bool.not_eq_eq_eq_not, Bool.not_true, Bool.not_false] at *
                simp [*])
              clear bad good
              rw [g.1, g.2]
              clear g
              simp only [app]
              simp only [hF, f_ltI, f_leI, f_eqI, f_eqS, f_eqB, f_not, f_andB, f_orB, f_lenS, f_lenD, f_hasS, f_atS, f_hasC, f_subS, f_hasCat, f_app, f_wrap, f_add, f_sub, f_mul, f_appD, f_fits, f_hasV, f_subV, decide_eq_true_eq, decide_eq_false_iff_not, beq_iff_eq, beq_eq_false_iff_ne, Bool.and_eq_true, Bool.and_eq_false_iff, Bool.not_eq_true, Bool.not_eq_false, Bool.not_eq_eq_eq_not, Bool.not_true, Bool.not_false] at *
              simp [lineW, join_cons2, Lib.join_one, verbF, *]))
def φRefWrite (p : List UInt8 → Bool) (u : Int → Int → Int → List UInt8 → Int → Int → Int → List UInt8) (ue : Int → Int → Int → List UInt8 → Int → Int → Int → Int) : List AV → Option (Bool × AV)
  | [.d (.agg [.s (.int .i64 a), .s (.int .i64 k), .s (.int .i64 i), .s (.str lv), .s (.int .i64 s), .s (.int .i64 w), .s (.int .u64 d)])] => some (p lv, .tup [.d (.s (.str (u a k i lv s w d))), .d (.s (.int .i64 (ue a k i lv s w d)))])
  | _ => none
theorem φRefWrite_ok : SpOK Tryd.prog 8 (φRefWrite (lv3) (fun a k i lv s w d => refS ⟨a, k, i, lv, s, w, d⟩) (fun a k i lv s w d => refE ⟨a, k, i, lv, s, w, d⟩)) := by
  intro xs b x h hb
  unfold φRefWrite at h
  split at h
  · simp only [Option.some.injEq, Prod.mk.injEq] at h
    obtain ⟨rfl, rfl⟩ := h
    exact RefWrite_spec _ _ _ _ _ _ _ hb
  · cases h
end Go.Proofs.YtpoebpggapfooaaDoor

/- Lines of words: plain laws; lists of bytes. -/
namespace Go.Proofs.YtpoebpggapfooaaDoor
open Go Go.Proofs Go.Ua Go.Extern
set_option linter.unusedVariables false
set_option linter.unusedSimpArgs false

def intDs (ns : List Int) : List Dat := ns.map fun n => .s (.int .u8 n)

theorem words_blanks (n : Nat) (x : List UInt8) : wordsF (List.replicate n 32 ++ x) = wordsF x := by
  induction n with
  | zero => rfl
  | succ n ih =>
    have := words_app (p := []) (List.replicate n 32 ++ x) (by simp)
    rw [List.replicate_succ, List.cons_append]
    exact this.trans ih

/-- A line that is read as ws, whatever follows behind a blank. -/
def LineOK (line : List UInt8) (ws : List (List UInt8)) : Prop := wordsF line = ws ∧ ∀ r, wordsF (line ++ 32 :: r) = ws ++ wordsF r
theorem line_nil : LineOK [] [] := ⟨rfl, fun r => words_app (p := []) r (by simp)⟩
theorem word_no {w : List UInt8} (h : wordF w = true) : w ≠ [] ∧ (32 : UInt8) ∉ w ∧ (10 : UInt8) ∉ w := by
  refine ⟨(word_parts h).1, fun hm => ?_, fun hm => ?_⟩
  · rw [wordF_no hm (.inr (.inl rfl))] at h; cases h
  · rw [wordF_no hm (.inr (.inr rfl))] at h; cases h
theorem line_snoc {line : List UInt8} {ws : List (List UInt8)} (h : LineOK line ws) (n : Nat) {w : List UInt8} (hw : wordF w = true) : LineOK (line ++ List.replicate (n + 1) 32 ++ w) (ws ++ [w]) := by
  obtain ⟨h1, h2, _⟩ := word_no hw
  have e : ∀ r, line ++ List.replicate (n + 1) 32 ++ r = line ++ 32 :: (List.replicate n 32 ++ r) := fun r => by simp [List.replicate_succ]
  refine ⟨?_, fun r => ?_⟩
  · rw [e, h.2, words_blanks]
    have := words_none h2
    rw [if_neg h1] at this
    exact congrArg (ws ++ ·) this
  · rw [List.append_assoc, e, h.2, words_blanks]
    have := words_app r h2
    rw [if_neg h1] at this
    rw [show wordsF (w ++ 32 :: r) = [w] ++ wordsF r from this, List.append_assoc]
def linesOf (ws : List (List UInt8)) : List UInt8 := (ws.map fun w => w ++ [10]).flatten
theorem linesOf_snoc (ws : List (List UInt8)) (w : List UInt8) : linesOf (ws ++ [w]) = linesOf ws ++ (w ++ [10]) := by simp [linesOf]
theorem cut_lines : ∀ {ws : List (List UInt8)}, (∀ w, w ∈ ws → wordF w = true) → cutF 10 (linesOf ws) = ws ++ [[]]
  | [], _ => rfl
  | w :: ws, h => by
    have ih := cut_lines (ws := ws) fun x hx => h x (List.mem_cons_of_mem _ hx)
    have : linesOf (w :: ws) = w ++ 10 :: linesOf ws := by simp [linesOf]
    rw [this, cut_app _ (word_no (h w (by simp))).2.2, ih]
    rfl
theorem lines_of {ws : List (List UInt8)} (h : ∀ w, w ∈ ws → wordF w = true) : linesF (linesOf ws) = ws := by
  unfold linesF
  rw [cut_lines h]
  simp

theorem typed_bytes {f : Nat} {l : List Dat} (h : typed tab (f + 2) 52 l) : ∃ zs, l = [.view 1 (intDs zs)] := by
  obtain ⟨es, rfl, hlen, hes⟩ := h
  clear hlen
  have : ∃ zs, es = intDs zs := by
    induction es with
    | nil => exact ⟨[], rfl⟩
    | cons x es ih =>
      obtain ⟨zs, rfl⟩ := ih fun x hx => hes x (List.mem_cons_of_mem _ hx)
      obtain ⟨l', rfl, s, rfl, _⟩ := hes x (by simp)
      exact ⟨s :: zs, rfl⟩
  obtain ⟨zs, rfl⟩ := this
  exact ⟨zs, rfl⟩
end Go.Proofs.YtpoebpggapfooaaDoor

/- What is told is read as it was written: plain laws. -/
namespace Go.Proofs.YtpoebpggapfooaaDoor
open Go Go.Proofs Go.Ua Go.Extern
set_option linter.unusedVariables false
set_option linter.unusedSimpArgs false

theorem words_join {ws : List (List UInt8)} (h : ∀ w, w ∈ ws → w ≠ [] ∧ (32 : UInt8) ∉ w) : wordsF (Lib.join ws [32]) = ws := by
  by_cases h0 : ws = []
  · subst h0; rw [Lib.join_nil]; rfl
  · unfold wordsF
    rw [cut_join h0 fun p hp => (h p hp).2]
    refine List.filter_eq_self.2 fun p hp => ?_
    simpa using (h p hp).1
theorem dig_word (n : Int) : digI n ≠ [] ∧ (32 : UInt8) ∉ digI n := by
  refine ⟨fun h => ?_, fun hm => ?_⟩
  · have := dig_pos n.toNat
    unfold digI at h
    rw [h] at this
    simp at this
  · have := List.all_eq_true.1 (dig_all n.toNat) 32 hm
    exact absurd this (by decide)
theorem hex_word (d : Int) : hexI d ≠ [] ∧ (32 : UInt8) ∉ hexI d := by
  refine ⟨fun h => ?_, fun hm => ?_⟩
  · have := hexN_len 16 d.toNat
    unfold hexI at h
    rw [h] at this
    simp at this
  · have key : ∀ (k n : Nat), (32 : UInt8) ∉ hexN k n := by
      intro k
      induction k with
      | zero => intro n; simp [hexN]
      | succ k ih =>
        intro n
        rw [hexN]
        simp only [List.mem_append, List.mem_singleton, not_or]
        refine ⟨ih _, ?_⟩
        have e : ∀ d : Nat, d < 16 → (32 : UInt8) ≠ hexC d := by decide
        exact e _ (Nat.mod_lt _ (by decide))
    exact key _ _ hm
theorem verb_word : ∀ k : Nat, 1 ≤ k → k ≤ 7 → verbF k ≠ [] ∧ (32 : UInt8) ∉ verbF k ∧ kindS (verbF k) = k := by
  intro k h1 h7
  have hk : k = 1 ∨ k = 2 ∨ k = 3 ∨ k = 4 ∨ k = 5 ∨ k = 6 ∨ k = 7 := by omega
  rcases hk with rfl | rfl | rfl | rfl | rfl | rfl | rfl <;> decide
theorem name_word {lv : List UInt8} (h : nameF lv = true) : lv ≠ [] ∧ (32 : UInt8) ∉ lv := ⟨(word_no (word_of_name h)).1, (word_no (word_of_name h)).2.1⟩
theorem num_digI {n lo hi : Int} (h0 : 0 ≤ n) (h1 : n ≤ 999999999) (hl : lo ≤ n) (hh : n ≤ hi) : numV (digI n) lo hi = n ∧ numB (digI n) lo hi = true := by
  have hv : ((valN (digI n) : Nat) : Int) = n := by unfold digI; rw [dig_val]; omega
  have hf : numForm (digI n) = true := num_of_dig (by omega)
  unfold numV numB numberF
  rw [hv, if_pos ⟨hf, hl, hh⟩]
  exact ⟨rfl, rfl⟩
theorem num_in {w : List UInt8} {lo hi : Int} (h : numB w lo hi = true) : 0 ≤ numV w lo hi ∧ lo ≤ numV w lo hi ∧ numV w lo hi ≤ hi := by
  unfold numB numV numberF at *
  split at h
  · rename_i g
    rw [if_pos g]
    exact ⟨by show (0 : Int) ≤ (valN w : Int); omega, g.2.1, g.2.2⟩
  · cases h
theorem unhex_in (w : List UInt8) : 0 ≤ unhexV w ∧ unhexV w ≤ 18446744073709551615 := by
  unfold unhexV
  split
  · rename_i h
    unfold unhexB at h
    simp only [Bool.and_eq_true, decide_eq_true_eq] at h
    have := foldH_lt w.length (Nat.le_refl _) (by rw [List.take_length]; exact h.2)
    rw [List.take_length, h.1] at this
    omega
  · omega

def inD (d : Int) : Prop := 0 ≤ d ∧ d ≤ 18446744073709551615
theorem inB3_iff {n a b : Int} : inB3 n a b = true ↔ a ≤ n ∧ n ≤ b := by simp [inB3]

/-- What may be told is told by words that say it. -/
theorem valid_words {t : Tl} (h : validB t = true) (hd : inD t.d) : parsedF (lineW t.a t.k t.i t.lv t.s t.w t.d) = (t, true) ∧ wordsF t.line = lineW t.a t.k t.i t.lv t.s t.w t.d := by
  obtain ⟨a, k, i, lv, s, w, d⟩ := t
  simp only [validB, Bool.and_eq_true, inB3_iff] at h
  obtain ⟨ha, h⟩ := h
  obtain ⟨ga, gb⟩ := num_digI ha.1 ha.2 ha.1 ha.2
  have da := dig_word a
  have vk : ∀ n : Nat, k = n → 1 ≤ n → n ≤ 7 → verbF k ≠ [] ∧ (32 : UInt8) ∉ verbF k ∧ kindS (verbF k) = k := fun n e h1 h2 => by rw [e]; exact verb_word n h1 h2
  have five : ∀ x : List UInt8, True := fun _ => trivial
  show parsedF (lineW a k i lv s w d) = _ ∧ wordsF (Lib.join (lineW a k i lv s w d) [32]) = lineW a k i lv s w d
  by_cases k1 : k = 1
  · subst k1
    rw [if_pos rfl] at h
    simp only [namedB, Bool.and_eq_true, inB3_iff, decide_eq_true_eq] at h
    obtain ⟨⟨hi, hn⟩, hs, rfl, rfl⟩ := h
    obtain ⟨v1, v2, v3⟩ := vk 1 rfl (by decide) (by decide)
    obtain ⟨gi, gj⟩ := num_digI hi.1 hi.2 hi.1 hi.2
    obtain ⟨gs, gt⟩ := num_digI (by omega) (by omega) hs.1 hs.2
    refine ⟨?_, words_join ?_⟩
    · simp [lineW, parsedF, ga, gb, v3, gi, gj, gs, gt, hn]
    · simp [lineW, da, dig_word i, dig_word s, name_word hn, v1, v2]
  rw [if_neg k1] at h
  by_cases k2 : k = 2
  · subst k2
    rw [if_pos rfl] at h
    simp only [namedB, Bool.and_eq_true, inB3_iff, decide_eq_true_eq] at h
    obtain ⟨⟨hi, hn⟩, rfl, hw, rfl⟩ := h
    obtain ⟨v1, v2, v3⟩ := vk 2 rfl (by decide) (by decide)
    obtain ⟨gi, gj⟩ := num_digI hi.1 hi.2 hi.1 hi.2
    obtain ⟨gs, gt⟩ := num_digI (by omega) (by omega) hw.1 hw.2
    refine ⟨?_, words_join ?_⟩
    · simp [lineW, parsedF, ga, gb, v3, gi, gj, gs, gt, hn]
    · simp [lineW, da, dig_word i, dig_word w, name_word hn, v1, v2]
  rw [if_neg k2] at h
  by_cases k3 : k = 3 ∨ k = 4 ∨ k = 5
  · rw [if_pos k3] at h
    simp only [namedB, Bool.and_eq_true, inB3_iff, decide_eq_true_eq] at h
    obtain ⟨⟨hi, hn⟩, rfl, rfl, rfl⟩ := h
    obtain ⟨n, hkn, h1, h2⟩ : ∃ n : Nat, k = n ∧ 1 ≤ n ∧ n ≤ 7 := by
      rcases k3 with rfl | rfl | rfl
      · exact ⟨3, rfl, by decide, by decide⟩
      · exact ⟨4, rfl, by decide, by decide⟩
      · exact ⟨5, rfl, by decide, by decide⟩
    obtain ⟨v1, v2, v3⟩ := vk n hkn h1 h2
    obtain ⟨gi, gj⟩ := num_digI hi.1 hi.2 hi.1 hi.2
    have k6 : k ≠ 6 := by omega
    have k7 : k ≠ 7 := by omega
    have k0 : k ≠ 0 := by omega
    refine ⟨?_, words_join ?_⟩
    · simp [lineW, parsedF, ga, gb, v3, gi, gj, hn, k1, k2, k6, k7, k0]
    · simp [lineW, da, dig_word i, name_word hn, v1, v2, k1, k2, k6, k7]
  rw [if_neg k3] at h
  by_cases k6 : k = 6
  · subst k6
    rw [if_pos rfl] at h
    simp only [bareB, Bool.and_eq_true, inB3_iff, decide_eq_true_eq] at h
    obtain ⟨⟨rfl, rfl, rfl⟩, hw, rfl⟩ := h
    obtain ⟨v1, v2, v3⟩ := vk 6 rfl (by decide) (by decide)
    obtain ⟨gs, gt⟩ := num_digI (by omega) (by omega) hw.1 hw.2
    refine ⟨?_, words_join ?_⟩
    · simp [lineW, parsedF, ga, gb, v3, gs, gt]
    · simp [lineW, da, dig_word w, v1, v2]
  rw [if_neg k6] at h
  by_cases k7 : k = 7
  · subst k7
    rw [if_pos rfl] at h
    simp only [bareB, Bool.and_eq_true, decide_eq_true_eq] at h
    obtain ⟨⟨rfl, rfl, rfl⟩, rfl⟩ := h
    obtain ⟨v1, v2, v3⟩ := vk 7 rfl (by decide) (by decide)
    obtain ⟨u1, u2⟩ := unhex_hex hd.1 hd.2
    have u1 : unhexB (hexI d) = true := u1
    have u2 : unhexV (hexI d) = d := u2
    refine ⟨?_, words_join ?_⟩
    · simp [lineW, parsedF, ga, gb, v3, u1, u2]
    · simp [lineW, da, hex_word d, v1, v2]
  rw [if_neg k7] at h
  cases h

/-- What words say may be told. -/
theorem parsed_valid {ws : List (List UInt8)} (h : (parsedF ws).2 = true) : validB (parsedF ws).1 = true ∧ inD (parsedF ws).1.d := by
  unfold parsedF at h ⊢
  have kl := kindS_le (ws.getD 1 [])
  have z : inD 0 := ⟨by decide, by decide⟩
  have hx := unhex_in (ws.getD 2 [])
  generalize ws.getD 0 [] = w0 at *
  generalize ws.getD 1 [] = w1 at *
  generalize ws.getD 2 [] = w2 at *
  generalize ws.getD 3 [] = w3 at *
  generalize ws.getD 4 [] = w4 at *
  generalize kindS w1 = kd at *
  split at h
  · cases h
  split at h
  · cases h
  rename_i h3 h0
  simp only [not_or] at h0
  have n0 := num_in (w := w0) (lo := 0) (hi := 999999999) (by simpa using h0.1)
  rw [if_neg h3, if_neg (by simpa using h0)]
  split at h
  · rename_i k6
    simp only [Bool.and_eq_true] at h
    have n2 := num_in h.1
    rw [if_pos k6]
    refine ⟨?_, z⟩
    simp [validB, inB3, bareB, n0, n2]
  rename_i k6
  rw [if_neg k6]
  split at h
  · rename_i k7
    rw [if_pos k7]
    refine ⟨?_, hx⟩
    simp [validB, inB3, bareB, n0]
  rename_i k7
  rw [if_neg k7]
  split at h
  · cases h
  rename_i hid
  simp only [not_or, Bool.not_eq_false] at hid
  have n2 := num_in hid.1
  rw [if_neg (by simpa using hid)]
  split at h
  · rename_i k1
    have n4 := num_in h
    rw [if_pos k1]
    refine ⟨?_, z⟩
    simp [validB, inB3, namedB, n0, n2, n4, k1.1, hid.2.2]
  rename_i k1
  rw [if_neg k1]
  split at h
  · rename_i k2
    have n4 := num_in h
    rw [if_pos k2]
    refine ⟨?_, z⟩
    simp [validB, inB3, namedB, n0, n2, n4, k2.1, hid.2.2]
  rename_i k2
  rw [if_neg k2]
  simp only [Bool.and_eq_true, Bool.not_eq_true', decide_eq_false_iff_not, decide_eq_true_eq] at h
  have k345 : kd = 3 ∨ kd = 4 ∨ kd = 5 := by omega
  refine ⟨?_, z⟩
  simp [validB, inB3, namedB, n0, n2, h.1, h.2.1, k345, hid.2.2]
end Go.Proofs.YtpoebpggapfooaaDoor

/- What is told, read and written: plain laws; the reference's trials. -/
namespace Go.Proofs.YtpoebpggapfooaaDoor
open Go Go.Proofs Go.Ua Go.Extern
set_option linter.unusedVariables false
set_option linter.unusedSimpArgs false

theorem valid_read {t : Tl} (h : validB t = true) (hd : inD t.d) : okR t.line = true ∧ readT t.line = t ∧ readE t.line = 0 := by
  obtain ⟨h1, h2⟩ := valid_words h hd
  have ok : okR t.line = true := by
    rw [okR, h2, h1]
    exact decide_eq_true rfl
  refine ⟨ok, ?_, ?_⟩
  · rw [readT, if_pos ok, h2, h1]
  · rw [readE, if_pos ok]
theorem read_valid {s : List UInt8} (h : okR s = true) : validB (readT s) = true ∧ inD (readT s).d ∧ (readT s).line = s := by
  have h' := h
  unfold okR at h'
  simp only [Bool.and_eq_true, decide_eq_true_eq] at h'
  obtain ⟨g1, g2⟩ := parsed_valid h'.1
  rw [readT, if_pos h]
  exact ⟨g1, g2, h'.2⟩
theorem okW_valid {t : Tl} (hd : inD t.d) : okW t = validB t := by
  rw [Bool.eq_iff_iff]
  constructor
  · intro h
    simp only [okW, Bool.and_eq_true, decide_eq_true_eq] at h
    obtain ⟨h0, h1, h2, h3, h4, h5, h6, h7⟩ := h
    have ok : okR t.line = true := by
      unfold readE at h0
      split at h0
      · assumption
      · exact absurd h0 (by decide)
    have := (read_valid ok).1
    have e : readT t.line = t := by
      cases hr : readT t.line
      rw [hr] at h1 h2 h3 h4 h5 h6 h7
      cases t
      simp_all
    rwa [e] at this
  · intro h
    obtain ⟨g1, g2, g3⟩ := valid_read h hd
    simp [okW, g2, g3]
theorem write_ref {t : Tl} (hd : inD t.d) : writeS t = refS t ∧ writeE t = refE t := by
  unfold writeS writeE refS refE
  rw [okW_valid hd]
  exact ⟨rfl, rfl⟩

def lastW (ws : List (List UInt8)) : List UInt8 := ws.getD (ws.length - 1) []
/-- What is tried of a kind. -/
def cand (ws : List (List UInt8)) (k : Int) : Tl :=
  if k = 6 then ⟨numV (ws.getD 0 []) 0 999999999, k, 0, [], 0, numV (lastW ws) 0 999999999, 0⟩
  else if k = 7 then ⟨numV (ws.getD 0 []) 0 999999999, k, 0, [], 0, 0, unhexV (ws.getD 2 [])⟩
  else ⟨numV (ws.getD 0 []) 0 999999999, k, numV (ws.getD 2 []) 0 999999999, ws.getD 3 [], if k = 1 then numV (lastW ws) 0 999999999 else 0, if k = 2 then numV (lastW ws) 0 999999999 else 0, 0⟩
def hitB (s : List UInt8) (k : Int) : Bool := (decide (k = 6) || (decide (k = 7) || decide (4 ≤ (wordsF s).length))) && (validB (cand (wordsF s) k) && decide ((cand (wordsF s) k).line = s))

theorem cand_inD (ws : List (List UInt8)) (k : Int) : inD (cand ws k).d := by
  unfold cand
  have z : inD 0 := ⟨by decide, by decide⟩
  split
  · exact z
  split
  · exact unhex_in _
  · exact z
theorem hit_read {s : List UInt8} {k : Int} (h : hitB s k = true) : readT s = cand (wordsF s) k ∧ readE s = 0 := by
  unfold hitB at h
  simp only [Bool.and_eq_true, decide_eq_true_eq] at h
  obtain ⟨_, h1, h2⟩ := h
  obtain ⟨_, g2, g3⟩ := valid_read h1 (cand_inD _ _)
  rw [h2] at g2 g3
  exact ⟨g2, g3⟩
theorem valid_hit {t : Tl} (h : validB t = true) (hd : inD t.d) : 3 ≤ (wordsF t.line).length ∧ (wordsF t.line).length ≤ 5 ∧ hitB t.line t.k = true ∧ 1 ≤ t.k ∧ t.k ≤ 7 := by
  have hw := (valid_words h hd).2
  have hv := h
  obtain ⟨a, k, i, lv, s, w, d⟩ := t
  simp only at hw hv hd ⊢
  have num : ∀ n : Int, 0 ≤ n → n ≤ 999999999 → numV (digI n) 0 999999999 = n := fun n h0 h1 => (num_digI h0 h1 h0 h1).1
  have key : (cand (lineW a k i lv s w d) k = ⟨a, k, i, lv, s, w, d⟩ ∧ (k = 6 ∨ k = 7 ∨ 4 ≤ (lineW a k i lv s w d).length)) → 3 ≤ (lineW a k i lv s w d).length → (lineW a k i lv s w d).length ≤ 5 → 1 ≤ k → k ≤ 7 →
      3 ≤ (wordsF (Tl.mk a k i lv s w d).line).length ∧ (wordsF (Tl.mk a k i lv s w d).line).length ≤ 5 ∧ hitB (Tl.mk a k i lv s w d).line k = true ∧ 1 ≤ k ∧ k ≤ 7 := by
    rintro ⟨h1, h2⟩ h3 h4 h5 h6
    rw [hw]
    refine ⟨h3, h4, ?_, h5, h6⟩
    unfold hitB
    rw [hw, h1, h]
    simp [h2]
  simp only [validB, Bool.and_eq_true, inB3_iff] at hv
  obtain ⟨ha, hv⟩ := hv
  have na := num a ha.1 ha.2
  by_cases k1 : k = 1
  · subst k1
    rw [if_pos rfl] at hv
    simp only [namedB, Bool.and_eq_true, inB3_iff, decide_eq_true_eq] at hv
    obtain ⟨⟨hi, hn⟩, hs, rfl, rfl⟩ := hv
    have ni := num i hi.1 hi.2
    have ns := num s (by omega) (by omega)
    exact key ⟨by simp [cand, lineW, lastW, na, ni, ns], by simp [lineW]⟩ (by simp [lineW]) (by simp [lineW]) (by decide) (by decide)
  rw [if_neg k1] at hv
  by_cases k2 : k = 2
  · subst k2
    rw [if_pos rfl] at hv
    simp only [namedB, Bool.and_eq_true, inB3_iff, decide_eq_true_eq] at hv
    obtain ⟨⟨hi, hn⟩, rfl, hs, rfl⟩ := hv
    have ni := num i hi.1 hi.2
    have ns := num w (by omega) (by omega)
    exact key ⟨by simp [cand, lineW, lastW, na, ni, ns], by simp [lineW]⟩ (by simp [lineW]) (by simp [lineW]) (by decide) (by decide)
  rw [if_neg k2] at hv
  by_cases k3 : k = 3 ∨ k = 4 ∨ k = 5
  · rw [if_pos k3] at hv
    simp only [namedB, Bool.and_eq_true, inB3_iff, decide_eq_true_eq] at hv
    obtain ⟨⟨hi, hn⟩, rfl, rfl, rfl⟩ := hv
    have ni := num i hi.1 hi.2
    have k6 : k ≠ 6 := by omega
    have k7 : k ≠ 7 := by omega
    exact key ⟨by simp [cand, lineW, lastW, na, ni, k1, k2, k6, k7], by simp [lineW, k1, k2, k6, k7]⟩ (by simp [lineW, k1, k2, k6, k7]) (by simp [lineW, k1, k2, k6, k7]) (by omega) (by omega)
  rw [if_neg k3] at hv
  by_cases k6 : k = 6
  · subst k6
    rw [if_pos rfl] at hv
    simp only [bareB, Bool.and_eq_true, inB3_iff, decide_eq_true_eq] at hv
    obtain ⟨⟨rfl, rfl, rfl⟩, hw2, rfl⟩ := hv
    have ns := num w (by omega) (by omega)
    exact key ⟨by simp [cand, lineW, lastW, na, ns], by simp [lineW]⟩ (by simp [lineW]) (by simp [lineW]) (by decide) (by decide)
  rw [if_neg k6] at hv
  by_cases k7 : k = 7
  · subst k7
    rw [if_pos rfl] at hv
    simp only [bareB, Bool.and_eq_true, decide_eq_true_eq] at hv
    obtain ⟨⟨rfl, rfl, rfl⟩, rfl⟩ := hv
    have u2 : unhexV (hexI d) = d := (unhex_hex hd.1 hd.2).2
    exact key ⟨by simp [cand, lineW, na, u2], by simp [lineW]⟩ (by simp [lineW]) (by simp [lineW]) (by decide) (by decide)
  rw [if_neg k7] at hv
  cases hv
theorem no_hit {s : List UInt8} (h : ((wordsF s).length < 3 ∨ 5 < (wordsF s).length) ∨ ∀ k : Nat, 1 ≤ k → k ≤ 7 → hitB s k = false) : readT s = zeroT ∧ readE s = 2 := by
  have : okR s = false := by
    cases hok : okR s
    · rfl
    · exfalso
      obtain ⟨g1, g2, g3⟩ := read_valid hok
      obtain ⟨f1, f2, f3, f4, f5⟩ := valid_hit g1 g2
      rw [g3] at f1 f2 f3
      rcases h with h | h
      · omega
      · have := h (readT s).k.toNat (by omega) (by omega)
        rw [Int.toNat_of_nonneg (by omega), f3] at this
        cases this
  unfold readT readE
  rw [this]
  exact ⟨rfl, rfl⟩
end Go.Proofs.YtpoebpggapfooaaDoor

/- The reference reads. -/
namespace Go.Proofs.YtpoebpggapfooaaDoor
open Go Go.Proofs Go.Ua Go.Extern
set_option linter.unusedVariables false
set_option linter.unusedSimpArgs false
set_option maxRecDepth 10000

def le4 (s : List UInt8) : Bool := decide (s.length ≤ 4000)
set_option maxHeartbeats 1000000 in
theorem RefRead_spec (s : List UInt8) (hs : le4 s = true) : ESpec Tryd.prog 10 [.d (.s (.str s))] (fun x => x = .tup [.d (readT s).dat, .d (.s (.int .i64 (readE s)))]) := by
  obtain ⟨uRefWords, huRefWords⟩ : ∃ u : List UInt8 → Bool, u = le32 := ⟨_, rfl⟩
  obtain ⟨uRefWords1, huRefWords1⟩ : ∃ u : List UInt8 → List Dat, u = fun w => strDs (wordsF w) := ⟨_, rfl⟩
  obtain ⟨uRefNumber, huRefNumber⟩ : ∃ u : List UInt8 → Int → Int → Int, u = numV := ⟨_, rfl⟩
  obtain ⟨uRefNumber1, huRefNumber1⟩ : ∃ u : List UInt8 → Int → Int → Bool, u = numB := ⟨_, rfl⟩
  obtain ⟨uRefUnhex, huRefUnhex⟩ : ∃ u : List UInt8 → Int, u = unhexV := ⟨_, rfl⟩
  obtain ⟨uRefUnhex1, huRefUnhex1⟩ : ∃ u : List UInt8 → Bool, u = unhexB := ⟨_, rfl⟩
  obtain ⟨uRefWrite, huRefWrite⟩ : ∃ u : List UInt8 → Bool, u = lv3 := ⟨_, rfl⟩
  obtain ⟨uRefWrite1, huRefWrite1⟩ : ∃ u : Int → Int → Int → List UInt8 → Int → Int → Int → List UInt8, u = fun a k i lv s w d => refS ⟨a, k, i, lv, s, w, d⟩ := ⟨_, rfl⟩
  obtain ⟨uRefWrite2, huRefWrite2⟩ : ∃ u : Int → Int → Int → List UInt8 → Int → Int → Int → Int, u = fun a k i lv s w d => refE ⟨a, k, i, lv, s, w, d⟩ := ⟨_, rfl⟩
  have hG : TblOK Tryd.prog [(18, φRefWords uRefWords uRefWords1), (19, φRefNumber uRefNumber uRefNumber1), (20, φRefUnhex uRefUnhex uRefUnhex1), (8, φRefWrite uRefWrite uRefWrite1 uRefWrite2)] := ⟨(by rw [huRefWords, huRefWords1]; exact φRefWords_ok), (by rw [huRefNumber, huRefNumber1]; exact φRefNumber_ok), (by rw [huRefUnhex, huRefUnhex1]; exact φRefUnhex_ok), (by rw [huRefWrite, huRefWrite1, huRefWrite2]; exact φRefWrite_ok), trivial⟩
  have hs' : s.length ≤ 4000 := of_decide_eq_true hs
  obtain ⟨Z, hZ⟩ : ∃ z, z = readT s := ⟨_, rfl⟩
  obtain ⟨E, hE⟩ : ∃ z, z = readE s := ⟨_, rfl⟩
  obtain ⟨ws, hws⟩ : ∃ z, z = wordsF s := ⟨_, rfl⟩
  have none : ((ws.length < 3 ∨ 5 < ws.length) ∨ ∀ k : Nat, 1 ≤ k → k ≤ 7 → hitB s k = false) → Z = zeroT ∧ E = 2 := fun h => by rw [hZ, hE]; rw [hws] at h; exact no_hit h
  have hit : ∀ k : Nat, hitB s k = true → Z = cand ws k ∧ E = 0 := fun k h => by rw [hZ, hE, hws]; exact hit_read h
  have wle : ∀ p, p ∈ ws → p.length ≤ 4000 := fun p hp => Nat.le_trans (words_le (by rw [hws] at hp; exact hp)) hs'
  rw [← hZ, ← hE]
  have q0 : uRefWords s = true := by subst huRefWords huRefWords1 huRefNumber huRefNumber1 huRefUnhex huRefUnhex1 huRefWrite huRefWrite1 huRefWrite2; exact decide_eq_true (by omega)
  obtain ⟨es, hes⟩ : ∃ z, z = uRefWords1 s := ⟨_, rfl⟩
  have hsd : es = strDs ws := by rw [hes, hws]; subst huRefWords huRefWords1 huRefNumber huRefNumber1 huRefUnhex huRefUnhex1 huRefWrite huRefWrite1 huRefWrite2; rfl
  have hel : es.length = ws.length := by rw [hsd]; simp [strDs]
  obtain ⟨w0, hw0⟩ : ∃ z, z = ws.getD 0 [] := ⟨_, rfl⟩
  obtain ⟨w2, hw2⟩ : ∃ z, z = ws.getD 2 [] := ⟨_, rfl⟩
  obtain ⟨w3, hw3⟩ : ∃ z, z = ws.getD 3 [] := ⟨_, rfl⟩
  obtain ⟨lw, hlw⟩ : ∃ z, z = lastW ws := ⟨_, rfl⟩
  refine ESpec.enter Tryd.func10 (by kernel_rfl) rfl (Nat.le_of_ble_eq_true rfl) fun hok cx hnt hfr => ?_
  obtain ⟨F, hF⟩ := real_ex
  refine AK.runT hF tabOK hmix hnt hfr false _ hG ?_
  conv => arg 4; cbv
  have s0 : F .strA es 0 0 = w0 := by rw [hsd, hw0]; exact t_strG hF ws 0
  have s2 : F .strA es 2 0 = w2 := by rw [hsd, hw2]; exact t_strG hF ws 2
  have s3 : F .strA es 3 0 = w3 := by rw [hsd, hw3]; exact t_strG hF ws 3
  have n0 : ∀ j : Nat, j < ws.length → F .hasD es (j : Int) [.str] = true := fun j hj => by rw [hsd]; exact t_hasG hF hj
  rw [← hes, s0]
  refine AKt.need q0 fun _ => ?_
  refine AKt.node (fun hb => ?_) (fun hb => ?_)
  · have h3 : ws.length < 3 := by simp only [hF, f_ltI, f_leI, f_eqI, f_eqS, f_eqB, f_not, f_andB, f_orB, f_lenS, f_lenD, f_hasS, f_atS, f_hasC, f_subS, f_hasCat, f_app, f_wrap, f_add, f_sub, f_mul, f_appD, f_fits, f_hasV, f_subV, decide_eq_true_eq, decide_eq_false_iff_not, beq_iff_eq, beq_eq_false_iff_ne, Bool.and_eq_true, Bool.and_eq_false_iff, Bool.not_eq_true, Bool.not_eq_false, Bool.not_eq_eq_eq_not, Bool.not_true, Bool.not_false] at hb; omega
    obtain ⟨g1, g2⟩ := none (.inl (.inl h3))
    repeat' (first | with_reducible refine AKt.have ?_ | with_reducible refine AKt.tt ?_ | with_reducible refine AKt.ff ?_ | with_reducible refine AKt.yes (by assumption) ?_ | with_reducible refine AKt.no (by assumption) ?_ | with_reducible refine AKt.node (fun hb => ?_) (fun hb => ?_) | with_reducible refine AKt.need ?_ (fun hb => ?_) | with_reducible refine AKt.leaf ?_ | ((with_reducible show _ = true); assumption))
    refine AKp.doneE tabOK hfr (by rfl) ?_
    show _ = _
    conv => lhs; cbv
    rw [g1, g2]
    rfl
  have h3 : ¬ ws.length < 3 := by simp only [hF, f_ltI, f_leI, f_eqI, f_eqS, f_eqB, f_not, f_andB, f_orB, f_lenS, f_lenD, f_hasS, f_atS, f_hasC, f_subS, f_hasCat, f_app, f_wrap, f_add, f_sub, f_mul, f_appD, f_fits, f_hasV, f_subV, decide_eq_true_eq, decide_eq_false_iff_not, beq_iff_eq, beq_eq_false_iff_ne, Bool.and_eq_true, Bool.and_eq_false_iff, Bool.not_eq_true, Bool.not_eq_false, Bool.not_eq_eq_eq_not, Bool.not_true, Bool.not_false] at hb; omega
  refine AKt.node (fun hb2 => ?_) (fun hb2 => ?_)
  · have h5 : 5 < ws.length := by simp only [hF, f_ltI, f_leI, f_eqI, f_eqS, f_eqB, f_not, f_andB, f_orB, f_lenS, f_lenD, f_hasS, f_atS, f_hasC, f_subS, f_hasCat, f_app, f_wrap, f_add, f_sub, f_mul, f_appD, f_fits, f_hasV, f_subV, decide_eq_true_eq, decide_eq_false_iff_not, beq_iff_eq, beq_eq_false_iff_ne, Bool.and_eq_true, Bool.and_eq_false_iff, Bool.not_eq_true, Bool.not_eq_false, Bool.not_eq_eq_eq_not, Bool.not_true, Bool.not_false] at hb2; omega
    obtain ⟨g1, g2⟩ := none (.inl (.inr h5))
    repeat' (first | with_reducible refine AKt.have ?_ | with_reducible refine AKt.tt ?_ | with_reducible refine AKt.ff ?_ | with_reducible refine AKt.yes (by assumption) ?_ | with_reducible refine AKt.no (by assumption) ?_ | with_reducible refine AKt.node (fun hb => ?_) (fun hb => ?_) | with_reducible refine AKt.need ?_ (fun hb => ?_) | with_reducible refine AKt.leaf ?_ | ((with_reducible show _ = true); assumption))
    refine AKp.doneE tabOK hfr (by rfl) ?_
    show _ = _
    conv => lhs; cbv
    rw [g1, g2]
    rfl
  have h5 : ¬ 5 < ws.length := by simp only [hF, f_ltI, f_leI, f_eqI, f_eqS, f_eqB, f_not, f_andB, f_orB, f_lenS, f_lenD, f_hasS, f_atS, f_hasC, f_subS, f_hasCat, f_app, f_wrap, f_add, f_sub, f_mul, f_appD, f_fits, f_hasV, f_subV, decide_eq_true_eq, decide_eq_false_iff_not, beq_iff_eq, beq_eq_false_iff_ne, Bool.and_eq_true, Bool.and_eq_false_iff, Bool.not_eq_true, Bool.not_eq_false, Bool.not_eq_eq_eq_not, Bool.not_true, Bool.not_false] at hb2; omega
  have k0 : F .hasD es 0 [.str] = true := n0 0 (by omega)
  have k2 : F .hasD es 2 [.str] = true := n0 2 (by omega)
  obtain ⟨at0, hat0⟩ : ∃ z, z = uRefNumber w0 0 999999999 := ⟨_, rfl⟩
  rw [← hat0]
  obtain ⟨li, hli⟩ : ∃ z : Int, z = ((ws.length - 1 : Nat) : Int) := ⟨_, rfl⟩
  have hlast : F .wrap .i64 (F .sub (F .lenD es) 1) = li := by
    rw [hli, hF, f_lenD]
    show IntKind.i64.wrap ((es.length : Int) - 1) = _
    rw [w_i64 (by omega) (by omega)]
    omega
  have sl : F .strA es li 0 = lw := by rw [hli, hlw, hsd]; exact t_strG hF ws _
  have kl : F .hasD es li [.str] = true := by rw [hli]; exact n0 _ (by omega)
  have q3 : uRefWrite w3 = true := by subst huRefWords huRefWords1 huRefNumber huRefNumber1 huRefUnhex huRefUnhex1 huRefWrite huRefWrite1 huRefWrite2; exact decide_eq_true (by rw [hw3]; exact getD_le wle)
  have qn : uRefWrite [] = true := by subst huRefWords huRefWords1 huRefNumber huRefNumber1 huRefUnhex huRefUnhex1 huRefWrite huRefWrite1 huRefWrite2; rfl
  repeat' (first | with_reducible refine AKt.have ?_ | with_reducible refine AKt.tt ?_ | with_reducible refine AKt.ff ?_ | with_reducible refine AKt.yes (by assumption) ?_ | with_reducible refine AKt.no (by assumption) ?_ | with_reducible refine AKt.node (fun hb => ?_) (fun hb => ?_) | with_reducible refine AKt.need ?_ (fun hb => ?_) | with_reducible refine AKt.leaf ?_ | ((with_reducible show _ = true); assumption))
  refine AKp.enterLoop 8 ?_
  conv => arg 7; cbv
  refine AKl.invT hF tabOK hmix hnt hfr false _ hG (fun n vs hs => ∃ (k : Nat) (kv : Int), k + n = 8 ∧ 1 ≤ k ∧ kv = k ∧ (∀ j : Nat, 1 ≤ j → j < k → hitB s j = false) ∧ vs = [(7, .d (.s (.int .i64 kv)))] ∧ hs = [(0, .cs 25 [.d (.s (.int .i64 0)), .d (.s (.int .i64 0)), .d (.s (.int .i64 0)), .d (.s (.str [])), .d (.s (.int .i64 0)), .d (.s (.int .i64 0)), .d (.s (.int .u64 0))])]) 7 ⟨1, _, by omega, by omega, rfl, fun j h1 h2 => by omega, rfl, rfl⟩ (by repeat (first | exact True.intro | refine ⟨⟨rfl, rfl⟩, ?_⟩)) (by repeat (first | exact True.intro | refine ⟨⟨rfl, rfl, rfl⟩, ?_⟩)) ?_
  rintro J n vs hs hJ ⟨k, kv, hk, hk1, hkv, hno, rfl, rfl⟩
  conv => arg 4; cbv
  rw [hlast, sl, s2, s3]
  obtain ⟨lwv, hlwv⟩ : ∃ z, z = uRefNumber lw 0 999999999 := ⟨_, rfl⟩
  rw [← hlwv]
  have hhit : ∀ t, cand ws kv = t → (kv = 6 ∨ kv = 7 ∨ 4 ≤ ws.length) → (hitB s kv = (decide (uRefWrite2 t.a t.k t.i t.lv t.s t.w t.d = 0) && decide (uRefWrite1 t.a t.k t.i t.lv t.s t.w t.d = s))) ∧ (hitB s kv = true → Z = t ∧ E = 0) := by
    intro t ht hc
    refine ⟨?_, fun h => by rw [hkv] at h ht; rw [← ht]; exact hit k h⟩
    unfold hitB
    rw [← hws, ht]
    have e : (decide (kv = 6) || (decide (kv = 7) || decide (4 ≤ ws.length))) = true := by simpa using hc
    rw [e]
    subst huRefWords huRefWords1 huRefNumber huRefNumber1 huRefUnhex huRefUnhex1 huRefWrite huRefWrite1 huRefWrite2
    show _ = (decide (refE t = 0) && decide (refS t = s))
    unfold refE refS
    cases validB t <;> simp
  have ext : hitB s kv = false → ∀ j : Nat, 1 ≤ j → j < k + 1 → hitB s j = false := fun h j h1 h2 => by
    by_cases e : j = k
    · rw [e, ← hkv]; exact h
    · exact hno j h1 (by omega)
  have c6 : kv = 6 → cand ws kv = ⟨at0, kv, 0, [], 0, lwv, 0⟩ := fun h => by rw [cand, if_pos h, ← hw0, ← hlw, hat0, hlwv]; subst huRefWords huRefWords1 huRefNumber huRefNumber1 huRefUnhex huRefUnhex1 huRefWrite huRefWrite1 huRefWrite2; rfl
  have c7 : kv = 7 → cand ws kv = ⟨at0, kv, 0, [], 0, 0, uRefUnhex w2⟩ := fun h => by rw [cand, if_neg (by omega), if_pos h, ← hw0, ← hw2, hat0]; subst huRefWords huRefWords1 huRefNumber huRefNumber1 huRefUnhex huRefUnhex1 huRefWrite huRefWrite1 huRefWrite2; rfl
  have cd : ¬ kv = 6 → ¬ kv = 7 → cand ws kv = ⟨at0, kv, uRefNumber w2 0 999999999, w3, if kv = 1 then lwv else 0, if kv = 2 then lwv else 0, 0⟩ := fun h h' => by rw [cand, if_neg h, if_neg h', ← hw0, ← hw2, ← hw3, ← hlw, hat0, hlwv]; subst huRefWords huRefWords1 huRefNumber huRefNumber1 huRefUnhex huRefUnhex1 huRefWrite huRefWrite1 huRefWrite2; rfl
  have few : ¬ kv = 6 → ¬ kv = 7 → ws.length < 4 → hitB s kv = false := fun h1 h2 h3 => by
    unfold hitB
    rw [← hws]
    simp [h1, h2, Nat.not_le.2 h3]
  refine AKt.node (fun hb1 => ?_) (fun hb1 => ?_)
  rotate_left
  · have hgt : ¬ k ≤ 7 := by simp only [hF, f_ltI, f_leI, f_eqI, f_eqS, f_eqB, f_not, f_andB, f_orB, f_lenS, f_lenD, f_hasS, f_atS, f_hasC, f_subS, f_hasCat, f_app, f_wrap, f_add, f_sub, f_mul, f_appD, f_fits, f_hasV, f_subV, decide_eq_true_eq, decide_eq_false_iff_not, beq_iff_eq, beq_eq_false_iff_ne, Bool.and_eq_true, Bool.and_eq_false_iff, Bool.not_eq_true, Bool.not_eq_false, Bool.not_eq_eq_eq_not, Bool.not_true, Bool.not_false] at hb1; omega
    obtain ⟨g1, g2⟩ := none (.inr fun j h1 h2 => hno j h1 (by omega))
    repeat' (first | with_reducible refine AKt.have ?_ | with_reducible refine AKt.tt ?_ | with_reducible refine AKt.ff ?_ | with_reducible refine AKt.yes (by assumption) ?_ | with_reducible refine AKt.no (by assumption) ?_ | with_reducible refine AKt.node (fun hb => ?_) (fun hb => ?_) | with_reducible refine AKt.need ?_ (fun hb => ?_) | with_reducible refine AKt.leaf ?_ | ((with_reducible show _ = true); assumption))
    refine AKp.doneE tabOK hfr (by rfl) ?_
    show _ = _
    conv => lhs; cbv
    rw [g1, g2]
    rfl
  have hle : k ≤ 7 := by simp only [hF, f_ltI, f_leI, f_eqI, f_eqS, f_eqB, f_not, f_andB, f_orB, f_lenS, f_lenD, f_hasS, f_atS, f_hasC, f_subS, f_hasCat, f_app, f_wrap, f_add, f_sub, f_mul, f_appD, f_fits, f_hasV, f_subV, decide_eq_true_eq, decide_eq_false_iff_not, beq_iff_eq, beq_eq_false_iff_ne, Bool.and_eq_true, Bool.and_eq_false_iff, Bool.not_eq_true, Bool.not_eq_false, Bool.not_eq_eq_eq_not, Bool.not_true, Bool.not_false] at hb1; omega
  repeat' (first | with_reducible refine AKt.have ?_ | with_reducible refine AKt.tt ?_ | with_reducible refine AKt.ff ?_ | with_reducible refine AKt.yes (by assumption) ?_ | with_reducible refine AKt.no (by assumption) ?_ | with_reducible refine AKt.node (fun hb => ?_) (fun hb => ?_) | with_reducible refine AKt.need ?_ (fun hb => ?_) | with_reducible refine AKt.leaf ?_ | ((with_reducible show _ = true); assumption))
  all_goals first
    | (refine n0 3 ?_
       rw [← hel]
       clear hJ hhit
       simp only [hF, f_ltI, f_leI, f_eqI, f_eqS, f_eqB, f_not, f_andB, f_orB, f_lenS, f_lenD, f_hasS, f_atS, f_hasC, f_subS, f_hasCat, f_app, f_wrap, f_add, f_sub, f_mul, f_appD, f_fits, f_hasV, f_subV, decide_eq_true_eq, decide_eq_false_iff_not, beq_iff_eq, beq_eq_false_iff_ne, Bool.and_eq_true, Bool.and_eq_false_iff, Bool.not_eq_true, Bool.not_eq_false, Bool.not_eq_eq_eq_not, Bool.not_true, Bool.not_false] at *
       omega)
    | (refine AKp.again _ hfr (by repeat (first | exact True.intro | refine ⟨⟨rfl, rfl⟩, ?_⟩)) (by repeat (first | exact True.intro | refine ⟨⟨rfl, rfl, rfl⟩, ?_⟩)) (hJ (n - 1) _ _ (by omega) ⟨k + 1, _, by omega, by omega, inc_i hF hkv (by omega), ext ?_, rfl, rfl⟩)
       clear hJ ext none hit hno k0 k2 s0 s2 s3 sl kl q0 q3 qn hG hok hlast hes hsd hws hw0 hw2 hw3 hlw hat0 hlwv huRefWords huRefWords1 huRefNumber huRefNumber1 huRefUnhex huRefUnhex1 huRefWrite huRefWrite1 huRefWrite2 hZ hE wle n0 hs hs' hkv
       rw [← hel] at hhit few
       simp only [hF, f_ltI, f_leI, f_eqI, f_eqS, f_eqB, f_not, f_andB, f_orB, f_lenS, f_lenD, f_hasS, f_atS, f_hasC, f_subS, f_hasCat, f_app, f_wrap, f_add, f_sub, f_mul, f_appD, f_fits, f_hasV, f_subV, decide_eq_true_eq, decide_eq_false_iff_not, beq_iff_eq, beq_eq_false_iff_ne, Bool.and_eq_true, Bool.and_eq_false_iff, Bool.not_eq_true, Bool.not_eq_false, Bool.not_eq_eq_eq_not, Bool.not_true, Bool.not_false] at *
       grind)
    | (refine AKp.doneE tabOK hfr (by rfl) ?_
       show _ = _
       conv => lhs; cbv
       clear hJ ext none hit hno k0 k2 s0 s2 s3 sl kl q0 q3 qn hG hok hlast hes hsd hws hw0 hw2 hw3 hlw hat0 hlwv huRefWords huRefWords1 huRefNumber huRefNumber1 huRefUnhex huRefUnhex1 huRefWrite huRefWrite1 huRefWrite2 hZ hE wle n0 hs hs' hkv
       rw [← hel] at hhit few
       simp only [hF, f_ltI, f_leI, f_eqI, f_eqS, f_eqB, f_not, f_andB, f_orB, f_lenS, f_lenD, f_hasS, f_atS, f_hasC, f_subS, f_hasCat, f_app, f_wrap, f_add, f_sub, f_mul, f_appD, f_fits, f_hasV, f_subV, decide_eq_true_eq, decide_eq_false_iff_not, beq_iff_eq, beq_eq_false_iff_ne, Bool.and_eq_true, Bool.and_eq_false_iff, Bool.not_eq_true, Bool.not_eq_false, Bool.not_eq_eq_eq_not, Bool.not_true, Bool.not_false] at *
       grind [Tl.dat])
def φRefRead (p : List UInt8 → Bool) (ua uk ui : List UInt8 → Int) (ul : List UInt8 → List UInt8) (us uw ud ue : List UInt8 → Int) : List AV → Option (Bool × AV)
  | [.d (.s (.str s))] => some (p s, .tup [.d (.agg [.s (.int .i64 (ua s)), .s (.int .i64 (uk s)), .s (.int .i64 (ui s)), .s (.str (ul s)), .s (.int .i64 (us s)), .s (.int .i64 (uw s)), .s (.int .u64 (ud s))]), .d (.s (.int .i64 (ue s)))])
  | _ => none
theorem φRefRead_ok : SpOK Tryd.prog 10 (φRefRead (le4) (fun s => (readT s).a) (fun s => (readT s).k) (fun s => (readT s).i) (fun s => (readT s).lv) (fun s => (readT s).s) (fun s => (readT s).w) (fun s => (readT s).d) (readE)) := by
  intro xs b x h hb
  unfold φRefRead at h
  split at h
  · simp only [Option.some.injEq, Prod.mk.injEq] at h
    obtain ⟨rfl, rfl⟩ := h
    exact RefRead_spec _ hb
  · cases h
end Go.Proofs.YtpoebpggapfooaaDoor
