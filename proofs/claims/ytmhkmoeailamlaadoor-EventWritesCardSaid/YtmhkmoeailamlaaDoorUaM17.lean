/- The library of this claim and its walks, part 17, joined out of smaller texts. No statement stands in it. -/
import Derived.Test.YtmhkmoeailamlaaDoorUaM16
import Derived.Laws.Bits64
import Derived.Laws.Bits64b
/- Hexadecimal digits, as the library prints them. -/
namespace Go.Proofs.YtmhkmoeailamlaaDoor
open Go Go.Proofs Go.Ua Go.Extern
set_option linter.unusedVariables false
set_option linter.unusedSimpArgs false

def hexC (n : Nat) : UInt8 := if n < 10 then UInt8.ofNat (48 + n) else UInt8.ofNat (87 + n)
def hexD (n : Nat) : List UInt8 := if h : n < 16 then [hexC n] else hexD (n / 16) ++ [hexC (n % 16)]
termination_by n
decreasing_by omega
theorem hexD_small {n : Nat} (h : n < 16) : hexD n = [hexC n] := by rw [hexD, dif_pos h]
theorem hexD_big {n : Nat} (h : ¬ n < 16) : hexD n = hexD (n / 16) ++ [hexC (n % 16)] := by rw [hexD, dif_neg h]
def DIG : List UInt8 := [48, 49, 50, 51, 52, 53, 54, 55, 56, 57, 97, 98, 99, 100, 101, 102, 103, 104, 105, 106, 107, 108, 109, 110, 111, 112, 113, 114, 115, 116, 117, 118, 119, 120, 121, 122]
theorem dig_at : ∀ n : Nat, n < 16 → DIG[n]? = some (hexC n) := by decide
def bytesI (t : List Int) : List UInt8 := t.map fun n => UInt8.ofNat n.toNat
theorem strOf_ints : ∀ {t : List Int}, (∀ n, n ∈ t → 0 ≤ n ∧ n ≤ 255) → strOf (t.map fun n => Dat.s (.int .u8 n)) = some (bytesI t)
  | [], _ => rfl
  | n :: t, h => by
    have ih := strOf_ints (t := t) fun x hx => h x (List.mem_cons_of_mem _ hx)
    have hn := h n (by simp)
    simp only [List.map_cons, strOf]
    rw [ih]
    simp only
    have e : n = ((UInt8.ofNat n.toNat).toNat : Int) := by rw [UInt8.toNat_ofNat']; omega
    rw [if_pos e]
    rfl
section
variable {F : Fam} (hF : F = Fam.real)
include hF
theorem t_dig {n : Nat} {nv : Int} (h : n < 16) (hn : nv = n) : F .atS [48, 49, 50, 51, 52, 53, 54, 55, 56, 57, 97, 98, 99, 100, 101, 102, 103, 104, 105, 106, 107, 108, 109, 110, 111, 112, 113, 114, 115, 116, 117, 118, 119, 120, 121, 122] nv = ((hexC n).toNat : Int) := t_atS hF (dig_at n h) hn
theorem t_dig2 {n : Nat} {nv : Int} (h : n < 16) (hn : nv = n) : F .hasS [48, 49, 50, 51, 52, 53, 54, 55, 56, 57, 97, 98, 99, 100, 101, 102, 103, 104, 105, 106, 107, 108, 109, 110, 111, 112, 113, 114, 115, 116, 117, 118, 119, 120, 121, 122] nv = true := t_hasS hF (i := n) (by simp; omega) hn
theorem t_and15 {u : Nat} {uv : Int} (hu : uv = u) (h : u < 18446744073709551616) : F .bits .and .u64 uv 15 = ((u % 16 : Nat) : Int) := by
  rw [hF, hu]
  have := bits_and_u64_nat u 15 h (by decide)
  have e : (u &&& 15 : Nat) = u % 16 := Nat.and_two_pow_sub_one_eq_mod u 4
  rw [e] at this
  exact this
theorem t_shr4 {u : Nat} {uv : Int} (hu : uv = u) (h : u < 18446744073709551616) : F .shr .u64 uv 4 = some ((u / 16 : Nat) : Int) := by
  rw [hF, hu]
  show (if (4 : Int) < 0 then none else some (Int.fdiv (u : Int) (2 ^ (Min.min (4 : Int).toNat IntKind.u64.bits)))) = _
  rw [if_neg (by decide)]
  have : (2 : Int) ^ (Min.min (4 : Int).toNat IntKind.u64.bits) = 16 := by decide
  rw [this, Int.fdiv_eq_ediv_of_nonneg _ (by decide)]
  rfl
end

theorem fb_state (h k u : Nat) (t : List Int) (hh : hexD h = hexD u ++ bytesI t) (hu : 16 ≤ u) (ht : ∀ n, n ∈ t → 0 ≤ n ∧ n ≤ 255) :
    hexD h = hexD (u / 16) ++ bytesI (((hexC (u % 16)).toNat : Int) :: t) ∧ ∀ n, n ∈ ((hexC (u % 16)).toNat : Int) :: t → 0 ≤ n ∧ n ≤ 255 := by
  have hlt := UInt8.toNat_lt (hexC (u % 16))
  refine ⟨?_, fun n hn => ?_⟩
  · rw [hh, hexD_big (by omega)]
    simp [bytesI]
  · rcases List.mem_cons.1 hn with rfl | hn
    · omega
    · exact ht n hn
theorem fb_end (h u : Nat) (t : List Int) (hh : hexD h = hexD u ++ bytesI t) (hu : u < 16) (ht : ∀ n, n ∈ t → 0 ≤ n ∧ n ≤ 255) :
    bytesI (((hexC u).toNat : Int) :: t) = hexD h ∧ ∀ n, n ∈ ((hexC u).toNat : Int) :: t → 0 ≤ n ∧ n ≤ 255 := by
  have hlt := UInt8.toNat_lt (hexC u)
  refine ⟨?_, fun n hn => ?_⟩
  · rw [hh, hexD_small hu]
    simp [bytesI]
  · rcases List.mem_cons.1 hn with rfl | hn
    · omega
    · exact ht n hn

set_option maxRecDepth 20000 in
set_option maxHeartbeats 4000000 in
theorem formatBits16 (h : Nat) (hlt : h < 18446744073709551616) : ESpec Tryd.prog 90 [.d (.s .sl0), .d (.s (.int .u64 h)), .d (.s (.int .i64 16)), .d (.s (.bool false)), .d (.s (.bool false))] (fun x => x = .tup [.d (.s .sl0), .d (.s (.str (hexD h)))]) := by
  obtain ⟨hv, hhv⟩ : ∃ z : Int, z = h := ⟨_, rfl⟩
  rw [← hhv]
  refine ESpec.enter Tryd.func90 (by kernel_rfl) rfl (Nat.le_of_ble_eq_true rfl) fun _ cx hnt hfr => ?_
  obtain ⟨F, hF⟩ := real_ex
  refine AK.run hF tabOK hnt ?_
  conv => arg 4; cbv
  rw [show F .ltI 16 2 = false by rw [hF]; decide +kernel]
  conv => arg 4; cbv
  rw [show F .eqI 16 10 = false by rw [hF]; decide +kernel]
  conv => arg 4; cbv
  rw [show F .ltI 36 16 = false by rw [hF]; decide +kernel]
  conv => arg 4; cbv
  refine AKp.call hF tabOK hnt isPow_spec rfl rfl rfl rfl rfl rfl rfl (by repeat' first | exact .refl _ | constructor) ?_
  rintro _ rfl
  conv => arg 4; cbv
  rw [show F .wrap .u64 16 = 16 by rw [hF]; decide +kernel]
  conv => arg 4; cbv
  refine AKp.call hF tabOK hnt TZ_spec rfl rfl rfl rfl rfl rfl rfl (by repeat' first | exact .refl _ | constructor) ?_
  rintro _ rfl
  conv => arg 4; cbv
  rw [show F .wrap .u64 16 = 16 by rw [hF]; decide +kernel]
  rw [show F .wrap .u64 4 = 4 by rw [hF]; decide +kernel]
  rw [show F .wrap .u64 (F .sub 16 1) = 15 by rw [hF]; decide +kernel]
  refine AKp.enterLoop 30 ?_
  conv => arg 7; cbv
  refine AKl.inv hF tabOK hnt hfr (fun n vs hs => ∃ (k : Nat) (uv jv : Int) (t : List Int), uv = n ∧ jv = 65 - k ∧ t.length = k ∧ k ≤ 15 ∧ n < 16 ^ (16 - k) ∧ hexD h = hexD n ++ bytesI t ∧ (∀ n, n ∈ t → 0 ≤ n ∧ n ≤ 255) ∧ vs = [(1, .d (.s (.int .u64 uv))), (13, .d (.s (.int .i64 jv)))] ∧
      hs = [(0, .cs 122 (List.replicate (65 - k) (.d (.s (.int .u8 0))) ++ t.map fun n => AV.d (.s (.int .u8 n))))]) h
    ⟨0, hv, 65, [], hhv, rfl, rfl, by omega, hlt, by simp [bytesI], by simp, rfl, rfl⟩ (by repeat (first | exact True.intro | refine ⟨⟨rfl, rfl⟩, ?_⟩)) (by repeat (first | exact True.intro | refine ⟨⟨rfl, rfl, rfl⟩, ?_⟩)) ?_
  rintro J n vs hs hJ ⟨k, uv, jv, t, huv, hjv, hkt, hk15, hn16, hhex, ht, rfl, rfl⟩
  have hk : k = 0 ∨ k = 1 ∨ k = 2 ∨ k = 3 ∨ k = 4 ∨ k = 5 ∨ k = 6 ∨ k = 7 ∨ k = 8 ∨ k = 9 ∨ k = 10 ∨ k = 11 ∨ k = 12 ∨ k = 13 ∨ k = 14 ∨ k = 15 := by omega
  have hn64 : n < 18446744073709551616 := Nat.lt_of_lt_of_le hn16 (Nat.pow_le_pow_right (by decide) (show 16 - k ≤ 16 by omega))
  rcases hk with rfl | rfl | rfl | rfl | rfl | rfl | rfl | rfl | rfl | rfl | rfl | rfl | rfl | rfl | rfl | rfl
  · obtain rfl : t = [] := List.eq_nil_of_length_eq_zero hkt
    obtain rfl : jv = 65 := by omega
    conv => arg 4; cbv
    cases hb : F .leI 16 uv
    case' true =>
      have hle := leI1 hF hb
      obtain ⟨c, hc⟩ : ∃ z, z = ((hexC (n % 16)).toNat : Int) := ⟨_, rfl⟩
      obtain ⟨g1, g2⟩ := fb_state h 0 n _ hhex (by omega) ht
      rw [← hc] at g1 g2
      conv => arg 4; cbv
      rw [show F .getS [48, 49, 50, 51, 52, 53, 54, 55, 56, 57, 97, 98, 99, 100, 101, 102, 103, 104, 105, 106, 107, 108, 109, 110, 111, 112, 113, 114, 115, 116, 117, 118, 119, 120, 121, 122] (F .bits .and .u64 uv 15) = some c by rw [hc]; exact l_getS hF (dig_at (n % 16) (Nat.mod_lt _ (by decide))) (t_and15 hF huv hn64)]
      conv => arg 4; cbv
      rw [show F .wrap .i64 (F .sub 65 1) = 64 by rw [hF]; decide +kernel, show F .inB 64 65 = some 64 by rw [hF]; decide +kernel]
      conv => arg 4; cbv
      obtain ⟨u2, hu2⟩ : ∃ z : Int, z = ((n / 16 : Nat) : Int) := ⟨_, rfl⟩
      rw [t_shr4 hF huv hn64, ← hu2]
      conv => arg 4; cbv
      exact AKp.again _ hfr (by repeat (first | exact True.intro | refine ⟨⟨rfl, rfl⟩, ?_⟩)) (by repeat (first | exact True.intro | refine ⟨⟨rfl, rfl, rfl⟩, ?_⟩)) (hJ (n / 16) _ _ (by omega) ⟨1, _, _, [c], hu2, by omega, rfl, by omega, by have : n < 16 * 16 ^ 15 := hn16; omega, g1, g2, rfl, rfl⟩)
    case' false =>
      have hgt := leI0 hF hb
      obtain ⟨c, hc⟩ : ∃ z, z = ((hexC n).toNat : Int) := ⟨_, rfl⟩
      obtain ⟨g1, g2⟩ := fb_end h n _ hhex (by omega) ht
      rw [← hc] at g1 g2
      conv => arg 4; cbv
      rw [show F .getS [48, 49, 50, 51, 52, 53, 54, 55, 56, 57, 97, 98, 99, 100, 101, 102, 103, 104, 105, 106, 107, 108, 109, 110, 111, 112, 113, 114, 115, 116, 117, 118, 119, 120, 121, 122] uv = some c by rw [hc]; exact l_getS hF (dig_at n (by omega)) huv]
      conv => arg 4; cbv
      rw [show F .wrap .i64 (F .sub 65 1) = 64 by rw [hF]; decide +kernel, show F .inB 64 65 = some 64 by rw [hF]; decide +kernel]
      conv => arg 4; cbv
      refine AKp.sliceArr hF hnt 64 rfl rfl rfl rfl rfl rfl rfl (Nat.le_of_ble_eq_true rfl) (Nat.le_of_ble_eq_true rfl) (fun b w => by kernel_rfl) rfl ?_
      conv => arg 4; cbv
      obtain ⟨D, hD⟩ : ∃ D, D = hexD h := ⟨_, rfl⟩
      rw [← hD] at g1 ⊢
      rw [show F .strD [.s (.int .u8 c)] = some D by rw [← g1, hF]; exact strOf_ints g2]
      conv => arg 4; cbv
      exact AKp.doneE tabOK hfr (by rfl) (by rfl)
  · obtain ⟨a0, rfl⟩ : ∃ a0 : Int, t = [a0] := by
      match t, hkt with
      | [a0], _ => exact ⟨a0, rfl⟩
    obtain rfl : jv = 64 := by omega
    conv => arg 4; cbv
    cases hb : F .leI 16 uv
    case' true =>
      have hle := leI1 hF hb
      obtain ⟨c, hc⟩ : ∃ z, z = ((hexC (n % 16)).toNat : Int) := ⟨_, rfl⟩
      obtain ⟨g1, g2⟩ := fb_state h 0 n _ hhex (by omega) ht
      rw [← hc] at g1 g2
      conv => arg 4; cbv
      rw [show F .getS [48, 49, 50, 51, 52, 53, 54, 55, 56, 57, 97, 98, 99, 100, 101, 102, 103, 104, 105, 106, 107, 108, 109, 110, 111, 112, 113, 114, 115, 116, 117, 118, 119, 120, 121, 122] (F .bits .and .u64 uv 15) = some c by rw [hc]; exact l_getS hF (dig_at (n % 16) (Nat.mod_lt _ (by decide))) (t_and15 hF huv hn64)]
      conv => arg 4; cbv
      rw [show F .wrap .i64 (F .sub 64 1) = 63 by rw [hF]; decide +kernel, show F .inB 63 65 = some 63 by rw [hF]; decide +kernel]
      conv => arg 4; cbv
      obtain ⟨u2, hu2⟩ : ∃ z : Int, z = ((n / 16 : Nat) : Int) := ⟨_, rfl⟩
      rw [t_shr4 hF huv hn64, ← hu2]
      conv => arg 4; cbv
      exact AKp.again _ hfr (by repeat (first | exact True.intro | refine ⟨⟨rfl, rfl⟩, ?_⟩)) (by repeat (first | exact True.intro | refine ⟨⟨rfl, rfl, rfl⟩, ?_⟩)) (hJ (n / 16) _ _ (by omega) ⟨2, _, _, [c, a0], hu2, by omega, rfl, by omega, by have : n < 16 * 16 ^ 14 := hn16; omega, g1, g2, rfl, rfl⟩)
    case' false =>
      have hgt := leI0 hF hb
      obtain ⟨c, hc⟩ : ∃ z, z = ((hexC n).toNat : Int) := ⟨_, rfl⟩
      obtain ⟨g1, g2⟩ := fb_end h n _ hhex (by omega) ht
      rw [← hc] at g1 g2
      conv => arg 4; cbv
      rw [show F .getS [48, 49, 50, 51, 52, 53, 54, 55, 56, 57, 97, 98, 99, 100, 101, 102, 103, 104, 105, 106, 107, 108, 109, 110, 111, 112, 113, 114, 115, 116, 117, 118, 119, 120, 121, 122] uv = some c by rw [hc]; exact l_getS hF (dig_at n (by omega)) huv]
      conv => arg 4; cbv
      rw [show F .wrap .i64 (F .sub 64 1) = 63 by rw [hF]; decide +kernel, show F .inB 63 65 = some 63 by rw [hF]; decide +kernel]
      conv => arg 4; cbv
      refine AKp.sliceArr hF hnt 63 rfl rfl rfl rfl rfl rfl rfl (Nat.le_of_ble_eq_true rfl) (Nat.le_of_ble_eq_true rfl) (fun b w => by kernel_rfl) rfl ?_
      conv => arg 4; cbv
      obtain ⟨D, hD⟩ : ∃ D, D = hexD h := ⟨_, rfl⟩
      rw [← hD] at g1 ⊢
      rw [show F .strD [.s (.int .u8 c), .s (.int .u8 a0)] = some D by rw [← g1, hF]; exact strOf_ints g2]
      conv => arg 4; cbv
      exact AKp.doneE tabOK hfr (by rfl) (by rfl)
  · obtain ⟨a0, a1, rfl⟩ : ∃ a0 a1 : Int, t = [a0, a1] := by
      match t, hkt with
      | [a0, a1], _ => exact ⟨a0, a1, rfl⟩
    obtain rfl : jv = 63 := by omega
    conv => arg 4; cbv
    cases hb : F .leI 16 uv
    case' true =>
      have hle := leI1 hF hb
      obtain ⟨c, hc⟩ : ∃ z, z = ((hexC (n % 16)).toNat : Int) := ⟨_, rfl⟩
      obtain ⟨g1, g2⟩ := fb_state h 0 n _ hhex (by omega) ht
      rw [← hc] at g1 g2
      conv => arg 4; cbv
      rw [show F .getS [48, 49, 50, 51, 52, 53, 54, 55, 56, 57, 97, 98, 99, 100, 101, 102, 103, 104, 105, 106, 107, 108, 109, 110, 111, 112, 113, 114, 115, 116, 117, 118, 119, 120, 121, 122] (F .bits .and .u64 uv 15) = some c by rw [hc]; exact l_getS hF (dig_at (n % 16) (Nat.mod_lt _ (by decide))) (t_and15 hF huv hn64)]
      conv => arg 4; cbv
      rw [show F .wrap .i64 (F .sub 63 1) = 62 by rw [hF]; decide +kernel, show F .inB 62 65 = some 62 by rw [hF]; decide +kernel]
      conv => arg 4; cbv
      obtain ⟨u2, hu2⟩ : ∃ z : Int, z = ((n / 16 : Nat) : Int) := ⟨_, rfl⟩
      rw [t_shr4 hF huv hn64, ← hu2]
      conv => arg 4; cbv
      exact AKp.again _ hfr (by repeat (first | exact True.intro | refine ⟨⟨rfl, rfl⟩, ?_⟩)) (by repeat (first | exact True.intro | refine ⟨⟨rfl, rfl, rfl⟩, ?_⟩)) (hJ (n / 16) _ _ (by omega) ⟨3, _, _, [c, a0, a1], hu2, by omega, rfl, by omega, by have : n < 16 * 16 ^ 13 := hn16; omega, g1, g2, rfl, rfl⟩)
    case' false =>
      have hgt := leI0 hF hb
      obtain ⟨c, hc⟩ : ∃ z, z = ((hexC n).toNat : Int) := ⟨_, rfl⟩
      obtain ⟨g1, g2⟩ := fb_end h n _ hhex (by omega) ht
      rw [← hc] at g1 g2
      conv => arg 4; cbv
      rw [show F .getS [48, 49, 50, 51, 52, 53, 54, 55, 56, 57, 97, 98, 99, 100, 101, 102, 103, 104, 105, 106, 107, 108, 109, 110, 111, 112, 113, 114, 115, 116, 117, 118, 119, 120, 121, 122] uv = some c by rw [hc]; exact l_getS hF (dig_at n (by omega)) huv]
      conv => arg 4; cbv
      rw [show F .wrap .i64 (F .sub 63 1) = 62 by rw [hF]; decide +kernel, show F .inB 62 65 = some 62 by rw [hF]; decide +kernel]
      conv => arg 4; cbv
      refine AKp.sliceArr hF hnt 62 rfl rfl rfl rfl rfl rfl rfl (Nat.le_of_ble_eq_true rfl) (Nat.le_of_ble_eq_true rfl) (fun b w => by kernel_rfl) rfl ?_
      conv => arg 4; cbv
      obtain ⟨D, hD⟩ : ∃ D, D = hexD h := ⟨_, rfl⟩
      rw [← hD] at g1 ⊢
      rw [show F .strD [.s (.int .u8 c), .s (.int .u8 a0), .s (.int .u8 a1)] = some D by rw [← g1, hF]; exact strOf_ints g2]
      conv => arg 4; cbv
      exact AKp.doneE tabOK hfr (by rfl) (by rfl)
  · obtain ⟨a0, a1, a2, rfl⟩ : ∃ a0 a1 a2 : Int, t = [a0, a1, a2] := by
      match t, hkt with
      | [a0, a1, a2], _ => exact ⟨a0, a1, a2, rfl⟩
    obtain rfl : jv = 62 := by omega
    conv => arg 4; cbv
    cases hb : F .leI 16 uv
    case' true =>
      have hle := leI1 hF hb
      obtain ⟨c, hc⟩ : ∃ z, z = ((hexC (n % 16)).toNat : Int) := ⟨_, rfl⟩
      obtain ⟨g1, g2⟩ := fb_state h 0 n _ hhex (by omega) ht
      rw [← hc] at g1 g2
      conv => arg 4; cbv
      rw [show F .getS [48, 49, 50, 51, 52, 53, 54, 55, 56, 57, 97, 98, 99, 100, 101, 102, 103, 104, 105, 106, 107, 108, 109, 110, 111, 112, 113, 114, 115, 116, 117, 118, 119, 120, 121, 122] (F .bits .and .u64 uv 15) = some c by rw [hc]; exact l_getS hF (dig_at (n % 16) (Nat.mod_lt _ (by decide))) (t_and15 hF huv hn64)]
      conv => arg 4; cbv
      rw [show F .wrap .i64 (F .sub 62 1) = 61 by rw [hF]; decide +kernel, show F .inB 61 65 = some 61 by rw [hF]; decide +kernel]
      conv => arg 4; cbv
      obtain ⟨u2, hu2⟩ : ∃ z : Int, z = ((n / 16 : Nat) : Int) := ⟨_, rfl⟩
      rw [t_shr4 hF huv hn64, ← hu2]
      conv => arg 4; cbv
      exact AKp.again _ hfr (by repeat (first | exact True.intro | refine ⟨⟨rfl, rfl⟩, ?_⟩)) (by repeat (first | exact True.intro | refine ⟨⟨rfl, rfl, rfl⟩, ?_⟩)) (hJ (n / 16) _ _ (by omega) ⟨4, _, _, [c, a0, a1, a2], hu2, by omega, rfl, by omega, by have : n < 16 * 16 ^ 12 := hn16; omega, g1, g2, rfl, rfl⟩)
    case' false =>
      have hgt := leI0 hF hb
      obtain ⟨c, hc⟩ : ∃ z, z = ((hexC n).toNat : Int) := ⟨_, rfl⟩
      obtain ⟨g1, g2⟩ := fb_end h n _ hhex (by omega) ht
      rw [← hc] at g1 g2
      conv => arg 4; cbv
      rw [show F .getS [48, 49, 50, 51, 52, 53, 54, 55, 56, 57, 97, 98, 99, 100, 101, 102, 103, 104, 105, 106, 107, 108, 109, 110, 111, 112, 113, 114, 115, 116, 117, 118, 119, 120, 121, 122] uv = some c by rw [hc]; exact l_getS hF (dig_at n (by omega)) huv]
      conv => arg 4; cbv
      rw [show F .wrap .i64 (F .sub 62 1) = 61 by rw [hF]; decide +kernel, show F .inB 61 65 = some 61 by rw [hF]; decide +kernel]
      conv => arg 4; cbv
      refine AKp.sliceArr hF hnt 61 rfl rfl rfl rfl rfl rfl rfl (Nat.le_of_ble_eq_true rfl) (Nat.le_of_ble_eq_true rfl) (fun b w => by kernel_rfl) rfl ?_
      conv => arg 4; cbv
      obtain ⟨D, hD⟩ : ∃ D, D = hexD h := ⟨_, rfl⟩
      rw [← hD] at g1 ⊢
      rw [show F .strD [.s (.int .u8 c), .s (.int .u8 a0), .s (.int .u8 a1), .s (.int .u8 a2)] = some D by rw [← g1, hF]; exact strOf_ints g2]
      conv => arg 4; cbv
      exact AKp.doneE tabOK hfr (by rfl) (by rfl)
  · obtain ⟨a0, a1, a2, a3, rfl⟩ : ∃ a0 a1 a2 a3 : Int, t = [a0, a1, a2, a3] := by
      match t, hkt with
      | [a0, a1, a2, a3], _ => exact ⟨a0, a1, a2, a3, rfl⟩
    obtain rfl : jv = 61 := by omega
    conv => arg 4; cbv
    cases hb : F .leI 16 uv
    case' true =>
      have hle := leI1 hF hb
      obtain ⟨c, hc⟩ : ∃ z, z = ((hexC (n % 16)).toNat : Int) := ⟨_, rfl⟩
      obtain ⟨g1, g2⟩ := fb_state h 0 n _ hhex (by omega) ht
      rw [← hc] at g1 g2
      conv => arg 4; cbv
      rw [show F .getS [48, 49, 50, 51, 52, 53, 54, 55, 56, 57, 97, 98, 99, 100, 101, 102, 103, 104, 105, 106, 107, 108, 109, 110, 111, 112, 113, 114, 115, 116, 117, 118, 119, 120, 121, 122] (F .bits .and .u64 uv 15) = some c by rw [hc]; exact l_getS hF (dig_at (n % 16) (Nat.mod_lt _ (by decide))) (t_and15 hF huv hn64)]
      conv => arg 4; cbv
      rw [show F .wrap .i64 (F .sub 61 1) = 60 by rw [hF]; decide +kernel, show F .inB 60 65 = some 60 by rw [hF]; decide +kernel]
      conv => arg 4; cbv
      obtain ⟨u2, hu2⟩ : ∃ z : Int, z = ((n / 16 : Nat) : Int) := ⟨_, rfl⟩
      rw [t_shr4 hF huv hn64, ← hu2]
      conv => arg 4; cbv
      exact AKp.again _ hfr (by repeat (first | exact True.intro | refine ⟨⟨rfl, rfl⟩, ?_⟩)) (by repeat (first | exact True.intro | refine ⟨⟨rfl, rfl, rfl⟩, ?_⟩)) (hJ (n / 16) _ _ (by omega) ⟨5, _, _, [c, a0, a1, a2, a3], hu2, by omega, rfl, by omega, by have : n < 16 * 16 ^ 11 := hn16; omega, g1, g2, rfl, rfl⟩)
    case' false =>
      have hgt := leI0 hF hb
      obtain ⟨c, hc⟩ : ∃ z, z = ((hexC n).toNat : Int) := ⟨_, rfl⟩
      obtain ⟨g1, g2⟩ := fb_end h n _ hhex (by omega) ht
      rw [← hc] at g1 g2
      conv => arg 4; cbv
      rw [show F .getS [48, 49, 50, 51, 52, 53, 54, 55, 56, 57, 97, 98, 99, 100, 101, 102, 103, 104, 105, 106, 107, 108, 109, 110, 111, 112, 113, 114, 115, 116, 117, 118, 119, 120, 121, 122] uv = some c by rw [hc]; exact l_getS hF (dig_at n (by omega)) huv]
      conv => arg 4; cbv
      rw [show F .wrap .i64 (F .sub 61 1) = 60 by rw [hF]; decide +kernel, show F .inB 60 65 = some 60 by rw [hF]; decide +kernel]
      conv => arg 4; cbv
      refine AKp.sliceArr hF hnt 60 rfl rfl rfl rfl rfl rfl rfl (Nat.le_of_ble_eq_true rfl) (Nat.le_of_ble_eq_true rfl) (fun b w => by kernel_rfl) rfl ?_
      conv => arg 4; cbv
      obtain ⟨D, hD⟩ : ∃ D, D = hexD h := ⟨_, rfl⟩
      rw [← hD] at g1 ⊢
      rw [show F .strD [.s (.int .u8 c), .s (.int .u8 a0), .s (.int .u8 a1), .s (.int .u8 a2), .s (.int .u8 a3)] = some D by rw [← g1, hF]; exact strOf_ints g2]
      conv => arg 4; cbv
      exact AKp.doneE tabOK hfr (by rfl) (by rfl)
  · obtain ⟨a0, a1, a2, a3, a4, rfl⟩ : ∃ a0 a1 a2 a3 a4 : Int, t = [a0, a1, a2, a3, a4] := by
      match t, hkt with
      | [a0, a1, a2, a3, a4], _ => exact ⟨a0, a1, a2, a3, a4, rfl⟩
    obtain rfl : jv = 60 := by omega
    conv => arg 4; cbv
    cases hb : F .leI 16 uv
    case' true =>
      have hle := leI1 hF hb
      obtain ⟨c, hc⟩ : ∃ z, z = ((hexC (n % 16)).toNat : Int) := ⟨_, rfl⟩
      obtain ⟨g1, g2⟩ := fb_state h 0 n _ hhex (by omega) ht
      rw [← hc] at g1 g2
      conv => arg 4; cbv
      rw [show F .getS [48, 49, 50, 51, 52, 53, 54, 55, 56, 57, 97, 98, 99, 100, 101, 102, 103, 104, 105, 106, 107, 108, 109, 110, 111, 112, 113, 114, 115, 116, 117, 118, 119, 120, 121, 122] (F .bits .and .u64 uv 15) = some c by rw [hc]; exact l_getS hF (dig_at (n % 16) (Nat.mod_lt _ (by decide))) (t_and15 hF huv hn64)]
      conv => arg 4; cbv
      rw [show F .wrap .i64 (F .sub 60 1) = 59 by rw [hF]; decide +kernel, show F .inB 59 65 = some 59 by rw [hF]; decide +kernel]
      conv => arg 4; cbv
      obtain ⟨u2, hu2⟩ : ∃ z : Int, z = ((n / 16 : Nat) : Int) := ⟨_, rfl⟩
      rw [t_shr4 hF huv hn64, ← hu2]
      conv => arg 4; cbv
      exact AKp.again _ hfr (by repeat (first | exact True.intro | refine ⟨⟨rfl, rfl⟩, ?_⟩)) (by repeat (first | exact True.intro | refine ⟨⟨rfl, rfl, rfl⟩, ?_⟩)) (hJ (n / 16) _ _ (by omega) ⟨6, _, _, [c, a0, a1, a2, a3, a4], hu2, by omega, rfl, by omega, by have : n < 16 * 16 ^ 10 := hn16; omega, g1, g2, rfl, rfl⟩)
    case' false =>
      have hgt := leI0 hF hb
      obtain ⟨c, hc⟩ : ∃ z, z = ((hexC n).toNat : Int) := ⟨_, rfl⟩
      obtain ⟨g1, g2⟩ := fb_end h n _ hhex (by omega) ht
      rw [← hc] at g1 g2
      conv => arg 4; cbv
      rw [show F .getS [48, 49, 50, 51, 52, 53, 54, 55, 56, 57, 97, 98, 99, 100, 101, 102, 103, 104, 105, 106, 107, 108, 109, 110, 111, 112, 113, 114, 115, 116, 117, 118, 119, 120, 121, 122] uv = some c by rw [hc]; exact l_getS hF (dig_at n (by omega)) huv]
      conv => arg 4; cbv
      rw [show F .wrap .i64 (F .sub 60 1) = 59 by rw [hF]; decide +kernel, show F .inB 59 65 = some 59 by rw [hF]; decide +kernel]
      conv => arg 4; cbv
      refine AKp.sliceArr hF hnt 59 rfl rfl rfl rfl rfl rfl rfl (Nat.le_of_ble_eq_true rfl) (Nat.le_of_ble_eq_true rfl) (fun b w => by kernel_rfl) rfl ?_
      conv => arg 4; cbv
      obtain ⟨D, hD⟩ : ∃ D, D = hexD h := ⟨_, rfl⟩
      rw [← hD] at g1 ⊢
      rw [show F .strD [.s (.int .u8 c), .s (.int .u8 a0), .s (.int .u8 a1), .s (.int .u8 a2), .s (.int .u8 a3), .s (.int .u8 a4)] = some D by rw [← g1, hF]; exact strOf_ints g2]
      conv => arg 4; cbv
      exact AKp.doneE tabOK hfr (by rfl) (by rfl)
  · obtain ⟨a0, a1, a2, a3, a4, a5, rfl⟩ : ∃ a0 a1 a2 a3 a4 a5 : Int, t = [a0, a1, a2, a3, a4, a5] := by
      match t, hkt with
      | [a0, a1, a2, a3, a4, a5], _ => exact ⟨a0, a1, a2, a3, a4, a5, rfl⟩
    obtain rfl : jv = 59 := by omega
    conv => arg 4; cbv
    cases hb : F .leI 16 uv
    case' true =>
      have hle := leI1 hF hb
      obtain ⟨c, hc⟩ : ∃ z, z = ((hexC (n % 16)).toNat : Int) := ⟨_, rfl⟩
      obtain ⟨g1, g2⟩ := fb_state h 0 n _ hhex (by omega) ht
      rw [← hc] at g1 g2
      conv => arg 4; cbv
      rw [show F .getS [48, 49, 50, 51, 52, 53, 54, 55, 56, 57, 97, 98, 99, 100, 101, 102, 103, 104, 105, 106, 107, 108, 109, 110, 111, 112, 113, 114, 115, 116, 117, 118, 119, 120, 121, 122] (F .bits .and .u64 uv 15) = some c by rw [hc]; exact l_getS hF (dig_at (n % 16) (Nat.mod_lt _ (by decide))) (t_and15 hF huv hn64)]
      conv => arg 4; cbv
      rw [show F .wrap .i64 (F .sub 59 1) = 58 by rw [hF]; decide +kernel, show F .inB 58 65 = some 58 by rw [hF]; decide +kernel]
      conv => arg 4; cbv
      obtain ⟨u2, hu2⟩ : ∃ z : Int, z = ((n / 16 : Nat) : Int) := ⟨_, rfl⟩
      rw [t_shr4 hF huv hn64, ← hu2]
      conv => arg 4; cbv
      exact AKp.again _ hfr (by repeat (first | exact True.intro | refine ⟨⟨rfl, rfl⟩, ?_⟩)) (by repeat (first | exact True.intro | refine ⟨⟨rfl, rfl, rfl⟩, ?_⟩)) (hJ (n / 16) _ _ (by omega) ⟨7, _, _, [c, a0, a1, a2, a3, a4, a5], hu2, by omega, rfl, by omega, by have : n < 16 * 16 ^ 9 := hn16; omega, g1, g2, rfl, rfl⟩)
    case' false =>
      have hgt := leI0 hF hb
      obtain ⟨c, hc⟩ : ∃ z, z = ((hexC n).toNat : Int) := ⟨_, rfl⟩
      obtain ⟨g1, g2⟩ := fb_end h n _ hhex (by omega) ht
      rw [← hc] at g1 g2
      conv => arg 4; cbv
      rw [show F .getS [48, 49, 50, 51, 52, 53, 54, 55, 56, 57, 97, 98, 99, 100, 101, 102, 103, 104, 105, 106, 107, 108, 109, 110, 111, 112, 113, 114, 115, 116, 117, 118, 119, 120, 121, 122] uv = some c by rw [hc]; exact l_getS hF (dig_at n (by omega)) huv]
      conv => arg 4; cbv
      rw [show F .wrap .i64 (F .sub 59 1) = 58 by rw [hF]; decide +kernel, show F .inB 58 65 = some 58 by rw [hF]; decide +kernel]
      conv => arg 4; cbv
      refine AKp.sliceArr hF hnt 58 rfl rfl rfl rfl rfl rfl rfl (Nat.le_of_ble_eq_true rfl) (Nat.le_of_ble_eq_true rfl) (fun b w => by kernel_rfl) rfl ?_
      conv => arg 4; cbv
      obtain ⟨D, hD⟩ : ∃ D, D = hexD h := ⟨_, rfl⟩
      rw [← hD] at g1 ⊢
      rw [show F .strD [.s (.int .u8 c), .s (.int .u8 a0), .s (.int .u8 a1), .s (.int .u8 a2), .s (.int .u8 a3), .s (.int .u8 a4), .s (.int .u8 a5)] = some D by rw [← g1, hF]; exact strOf_ints g2]
      conv => arg 4; cbv
      exact AKp.doneE tabOK hfr (by rfl) (by rfl)
  · obtain ⟨a0, a1, a2, a3, a4, a5, a6, rfl⟩ : ∃ a0 a1 a2 a3 a4 a5 a6 : Int, t = [a0, a1, a2, a3, a4, a5, a6] := by
      match t, hkt with
      | [a0, a1, a2, a3, a4, a5, a6], _ => exact ⟨a0, a1, a2, a3, a4, a5, a6, rfl⟩
    obtain rfl : jv = 58 := by omega
    conv => arg 4; cbv
    cases hb : F .leI 16 uv
    case' true =>
      have hle := leI1 hF hb
      obtain ⟨c, hc⟩ : ∃ z, z = ((hexC (n % 16)).toNat : Int) := ⟨_, rfl⟩
      obtain ⟨g1, g2⟩ := fb_state h 0 n _ hhex (by omega) ht
      rw [← hc] at g1 g2
      conv => arg 4; cbv
      rw [show F .getS [48, 49, 50, 51, 52, 53, 54, 55, 56, 57, 97, 98, 99, 100, 101, 102, 103, 104, 105, 106, 107, 108, 109, 110, 111, 112, 113, 114, 115, 116, 117, 118, 119, 120, 121, 122] (F .bits .and .u64 uv 15) = some c by rw [hc]; exact l_getS hF (dig_at (n % 16) (Nat.mod_lt _ (by decide))) (t_and15 hF huv hn64)]
      conv => arg 4; cbv
      rw [show F .wrap .i64 (F .sub 58 1) = 57 by rw [hF]; decide +kernel, show F .inB 57 65 = some 57 by rw [hF]; decide +kernel]
      conv => arg 4; cbv
      obtain ⟨u2, hu2⟩ : ∃ z : Int, z = ((n / 16 : Nat) : Int) := ⟨_, rfl⟩
      rw [t_shr4 hF huv hn64, ← hu2]
      conv => arg 4; cbv
      exact AKp.again _ hfr (by repeat (first | exact True.intro | refine ⟨⟨rfl, rfl⟩, ?_⟩)) (by repeat (first | exact True.intro | refine ⟨⟨rfl, rfl, rfl⟩, ?_⟩)) (hJ (n / 16) _ _ (by omega) ⟨8, _, _, [c, a0, a1, a2, a3, a4, a5, a6], hu2, by omega, rfl, by omega, by have : n < 16 * 16 ^ 8 := hn16; omega, g1, g2, rfl, rfl⟩)
    case' false =>
      have hgt := leI0 hF hb
      obtain ⟨c, hc⟩ : ∃ z, z = ((hexC n).toNat : Int) := ⟨_, rfl⟩
      obtain ⟨g1, g2⟩ := fb_end h n _ hhex (by omega) ht
      rw [← hc] at g1 g2
      conv => arg 4; cbv
      rw [show F .getS [48, 49, 50, 51, 52, 53, 54, 55, 56, 57, 97, 98, 99, 100, 101, 102, 103, 104, 105, 106, 107, 108, 109, 110, 111, 112, 113, 114, 115, 116, 117, 118, 119, 120, 121, 122] uv = some c by rw [hc]; exact l_getS hF (dig_at n (by omega)) huv]
      conv => arg 4; cbv
      rw [show F .wrap .i64 (F .sub 58 1) = 57 by rw [hF]; decide +kernel, show F .inB 57 65 = some 57 by rw [hF]; decide +kernel]
      conv => arg 4; cbv
      refine AKp.sliceArr hF hnt 57 rfl rfl rfl rfl rfl rfl rfl (Nat.le_of_ble_eq_true rfl) (Nat.le_of_ble_eq_true rfl) (fun b w => by kernel_rfl) rfl ?_
      conv => arg 4; cbv
      obtain ⟨D, hD⟩ : ∃ D, D = hexD h := ⟨_, rfl⟩
      rw [← hD] at g1 ⊢
      rw [show F .strD [.s (.int .u8 c), .s (.int .u8 a0), .s (.int .u8 a1), .s (.int .u8 a2), .s (.int .u8 a3), .s (.int .u8 a4), .s (.int .u8 a5), .s (.int .u8 a6)] = some D by rw [← g1, hF]; exact strOf_ints g2]
      conv => arg 4; cbv
      exact AKp.doneE tabOK hfr (by rfl) (by rfl)
  · obtain ⟨a0, a1, a2, a3, a4, a5, a6, a7, rfl⟩ : ∃ a0 a1 a2 a3 a4 a5 a6 a7 : Int, t = [a0, a1, a2, a3, a4, a5, a6, a7] := by
      match t, hkt with
      | [a0, a1, a2, a3, a4, a5, a6, a7], _ => exact ⟨a0, a1, a2, a3, a4, a5, a6, a7, rfl⟩
    obtain rfl : jv = 57 := by omega
    conv => arg 4; cbv
    cases hb : F .leI 16 uv
    case' true =>
      have hle := leI1 hF hb
      obtain ⟨c, hc⟩ : ∃ z, z = ((hexC (n % 16)).toNat : Int) := ⟨_, rfl⟩
      obtain ⟨g1, g2⟩ := fb_state h 0 n _ hhex (by omega) ht
      rw [← hc] at g1 g2
      conv => arg 4; cbv
      rw [show F .getS [48, 49, 50, 51, 52, 53, 54, 55, 56, 57, 97, 98, 99, 100, 101, 102, 103, 104, 105, 106, 107, 108, 109, 110, 111, 112, 113, 114, 115, 116, 117, 118, 119, 120, 121, 122] (F .bits .and .u64 uv 15) = some c by rw [hc]; exact l_getS hF (dig_at (n % 16) (Nat.mod_lt _ (by decide))) (t_and15 hF huv hn64)]
      conv => arg 4; cbv
      rw [show F .wrap .i64 (F .sub 57 1) = 56 by rw [hF]; decide +kernel, show F .inB 56 65 = some 56 by rw [hF]; decide +kernel]
      conv => arg 4; cbv
      obtain ⟨u2, hu2⟩ : ∃ z : Int, z = ((n / 16 : Nat) : Int) := ⟨_, rfl⟩
      rw [t_shr4 hF huv hn64, ← hu2]
      conv => arg 4; cbv
      exact AKp.again _ hfr (by repeat (first | exact True.intro | refine ⟨⟨rfl, rfl⟩, ?_⟩)) (by repeat (first | exact True.intro | refine ⟨⟨rfl, rfl, rfl⟩, ?_⟩)) (hJ (n / 16) _ _ (by omega) ⟨9, _, _, [c, a0, a1, a2, a3, a4, a5, a6, a7], hu2, by omega, rfl, by omega, by have : n < 16 * 16 ^ 7 := hn16; omega, g1, g2, rfl, rfl⟩)
    case' false =>
      have hgt := leI0 hF hb
      obtain ⟨c, hc⟩ : ∃ z, z = ((hexC n).toNat : Int) := ⟨_, rfl⟩
      obtain ⟨g1, g2⟩ := fb_end h n _ hhex (by omega) ht
      rw [← hc] at g1 g2
      conv => arg 4; cbv
      rw [show F .getS [48, 49, 50, 51, 52, 53, 54, 55, 56, 57, 97, 98, 99, 100, 101, 102, 103, 104, 105, 106, 107, 108, 109, 110, 111, 112, 113, 114, 115, 116, 117, 118, 119, 120, 121, 122] uv = some c by rw [hc]; exact l_getS hF (dig_at n (by omega)) huv]
      conv => arg 4; cbv
      rw [show F .wrap .i64 (F .sub 57 1) = 56 by rw [hF]; decide +kernel, show F .inB 56 65 = some 56 by rw [hF]; decide +kernel]
      conv => arg 4; cbv
      refine AKp.sliceArr hF hnt 56 rfl rfl rfl rfl rfl rfl rfl (Nat.le_of_ble_eq_true rfl) (Nat.le_of_ble_eq_true rfl) (fun b w => by kernel_rfl) rfl ?_
      conv => arg 4; cbv
      obtain ⟨D, hD⟩ : ∃ D, D = hexD h := ⟨_, rfl⟩
      rw [← hD] at g1 ⊢
      rw [show F .strD [.s (.int .u8 c), .s (.int .u8 a0), .s (.int .u8 a1), .s (.int .u8 a2), .s (.int .u8 a3), .s (.int .u8 a4), .s (.int .u8 a5), .s (.int .u8 a6), .s (.int .u8 a7)] = some D by rw [← g1, hF]; exact strOf_ints g2]
      conv => arg 4; cbv
      exact AKp.doneE tabOK hfr (by rfl) (by rfl)
  · obtain ⟨a0, a1, a2, a3, a4, a5, a6, a7, a8, rfl⟩ : ∃ a0 a1 a2 a3 a4 a5 a6 a7 a8 : Int, t = [a0, a1, a2, a3, a4, a5, a6, a7, a8] := by
      match t, hkt with
      | [a0, a1, a2, a3, a4, a5, a6, a7, a8], _ => exact ⟨a0, a1, a2, a3, a4, a5, a6, a7, a8, rfl⟩
    obtain rfl : jv = 56 := by omega
    conv => arg 4; cbv
    cases hb : F .leI 16 uv
    case' true =>
      have hle := leI1 hF hb
      obtain ⟨c, hc⟩ : ∃ z, z = ((hexC (n % 16)).toNat : Int) := ⟨_, rfl⟩
      obtain ⟨g1, g2⟩ := fb_state h 0 n _ hhex (by omega) ht
      rw [← hc] at g1 g2
      conv => arg 4; cbv
      rw [show F .getS [48, 49, 50, 51, 52, 53, 54, 55, 56, 57, 97, 98, 99, 100, 101, 102, 103, 104, 105, 106, 107, 108, 109, 110, 111, 112, 113, 114, 115, 116, 117, 118, 119, 120, 121, 122] (F .bits .and .u64 uv 15) = some c by rw [hc]; exact l_getS hF (dig_at (n % 16) (Nat.mod_lt _ (by decide))) (t_and15 hF huv hn64)]
      conv => arg 4; cbv
      rw [show F .wrap .i64 (F .sub 56 1) = 55 by rw [hF]; decide +kernel, show F .inB 55 65 = some 55 by rw [hF]; decide +kernel]
      conv => arg 4; cbv
      obtain ⟨u2, hu2⟩ : ∃ z : Int, z = ((n / 16 : Nat) : Int) := ⟨_, rfl⟩
      rw [t_shr4 hF huv hn64, ← hu2]
      conv => arg 4; cbv
      exact AKp.again _ hfr (by repeat (first | exact True.intro | refine ⟨⟨rfl, rfl⟩, ?_⟩)) (by repeat (first | exact True.intro | refine ⟨⟨rfl, rfl, rfl⟩, ?_⟩)) (hJ (n / 16) _ _ (by omega) ⟨10, _, _, [c, a0, a1, a2, a3, a4, a5, a6, a7, a8], hu2, by omega, rfl, by omega, by have : n < 16 * 16 ^ 6 := hn16; omega, g1, g2, rfl, rfl⟩)
    case' false =>
      have hgt := leI0 hF hb
      obtain ⟨c, hc⟩ : ∃ z, z = ((hexC n).toNat : Int) := ⟨_, rfl⟩
      obtain ⟨g1, g2⟩ := fb_end h n _ hhex (by omega) ht
      rw [← hc] at g1 g2
      conv => arg 4; cbv
      rw [show F .getS [48, 49, 50, 51, 52, 53, 54, 55, 56, 57, 97, 98, 99, 100, 101, 102, 103, 104, 105, 106, 107, 108, 109, 110, 111, 112, 113, 114, 115, 116, 117, 118, 119, 120, 121, 122] uv = some c by rw [hc]; exact l_getS hF (dig_at n (by omega)) huv]
      conv => arg 4; cbv
      rw [show F .wrap .i64 (F .sub 56 1) = 55 by rw [hF]; decide +kernel, show F .inB 55 65 = some 55 by rw [hF]; decide +kernel]
      conv => arg 4; cbv
      refine AKp.sliceArr hF hnt 55 rfl rfl rfl rfl rfl rfl rfl (Nat.le_of_ble_eq_true rfl) (Nat.le_of_ble_eq_true rfl) (fun b w => by kernel_rfl) rfl ?_
      conv => arg 4; cbv
      obtain ⟨D, hD⟩ : ∃ D, D = hexD h := ⟨_, rfl⟩
      rw [← hD] at g1 ⊢
      rw [show F .strD [.s (.int .u8 c), .s (.int .u8 a0), .s (.int .u8 a1), .s (.int .u8 a2), .s (.int .u8 a3), .s (.int .u8 a4), .s (.int .u8 a5), .s (.int .u8 a6), .s (.int .u8 a7), .s (.int .u8 a8)] = some D by rw [← g1, hF]; exact strOf_ints g2]
      conv => arg 4; cbv
      exact AKp.doneE tabOK hfr (by rfl) (by rfl)
  · obtain ⟨a0, a1, a2, a3, a4, a5, a6, a7, a8, a9, rfl⟩ : ∃ a0 a1 a2 a3 a4 a5 a6 a7 a8 a9 : Int, t = [a0, a1, a2, a3, a4, a5, a6, a7, a8, a9] := by
      match t, hkt with
      | [a0, a1, a2, a3, a4, a5, a6, a7, a8, a9], _ => exact ⟨a0, a1, a2, a3, a4, a5, a6, a7, a8, a9, rfl⟩
    obtain rfl : jv = 55 := by omega
    conv => arg 4; cbv
    cases hb : F .leI 16 uv
    case' true =>
      have hle := leI1 hF hb
      obtain ⟨c, hc⟩ : ∃ z, z = ((hexC (n % 16)).toNat : Int) := ⟨_, rfl⟩
      obtain ⟨g1, g2⟩ := fb_state h 0 n _ hhex (by omega) ht
      rw [← hc] at g1 g2
      conv => arg 4; cbv
      rw [show F .getS [48, 49, 50, 51, 52, 53, 54, 55, 56, 57, 97, 98, 99, 100, 101, 102, 103, 104, 105, 106, 107, 108, 109, 110, 111, 112, 113, 114, 115, 116, 117, 118, 119, 120, 121, 122] (F .bits .and .u64 uv 15) = some c by rw [hc]; exact l_getS hF (dig_at (n % 16) (Nat.mod_lt _ (by decide))) (t_and15 hF huv hn64)]
      conv => arg 4; cbv
      rw [show F .wrap .i64 (F .sub 55 1) = 54 by rw [hF]; decide +kernel, show F .inB 54 65 = some 54 by rw [hF]; decide +kernel]
      conv => arg 4; cbv
      obtain ⟨u2, hu2⟩ : ∃ z : Int, z = ((n / 16 : Nat) : Int) := ⟨_, rfl⟩
      rw [t_shr4 hF huv hn64, ← hu2]
      conv => arg 4; cbv
      exact AKp.again _ hfr (by repeat (first | exact True.intro | refine ⟨⟨rfl, rfl⟩, ?_⟩)) (by repeat (first | exact True.intro | refine ⟨⟨rfl, rfl, rfl⟩, ?_⟩)) (hJ (n / 16) _ _ (by omega) ⟨11, _, _, [c, a0, a1, a2, a3, a4, a5, a6, a7, a8, a9], hu2, by omega, rfl, by omega, by have : n < 16 * 16 ^ 5 := hn16; omega, g1, g2, rfl, rfl⟩)
    case' false =>
      have hgt := leI0 hF hb
      obtain ⟨c, hc⟩ : ∃ z, z = ((hexC n).toNat : Int) := ⟨_, rfl⟩
      obtain ⟨g1, g2⟩ := fb_end h n _ hhex (by omega) ht
      rw [← hc] at g1 g2
      conv => arg 4; cbv
      rw [show F .getS [48, 49, 50, 51, 52, 53, 54, 55, 56, 57, 97, 98, 99, 100, 101, 102, 103, 104, 105, 106, 107, 108, 109, 110, 111, 112, 113, 114, 115, 116, 117, 118, 119, 120, 121, 122] uv = some c by rw [hc]; exact l_getS hF (dig_at n (by omega)) huv]
      conv => arg 4; cbv
      rw [show F .wrap .i64 (F .sub 55 1) = 54 by rw [hF]; decide +kernel, show F .inB 54 65 = some 54 by rw [hF]; decide +kernel]
      conv => arg 4; cbv
      refine AKp.sliceArr hF hnt 54 rfl rfl rfl rfl rfl rfl rfl (Nat.le_of_ble_eq_true rfl) (Nat.le_of_ble_eq_true rfl) (fun b w => by kernel_rfl) rfl ?_
      conv => arg 4; cbv
      obtain ⟨D, hD⟩ : ∃ D, D = hexD h := ⟨_, rfl⟩
      rw [← hD] at g1 ⊢
      rw [show F .strD [.s (.int .u8 c), .s (.int .u8 a0), .s (.int .u8 a1), .s (.int .u8 a2), .s (.int .u8 a3), .s (.int .u8 a4), .s (.int .u8 a5), .s (.int .u8 a6), .s (.int .u8 a7), .s (.int .u8 a8), .s (.int .u8 a9)] = some D by rw [← g1, hF]; exact strOf_ints g2]
      conv => arg 4; cbv
      exact AKp.doneE tabOK hfr (by rfl) (by rfl)
  · obtain ⟨a0, a1, a2, a3, a4, a5, a6, a7, a8, a9, a10, rfl⟩ : ∃ a0 a1 a2 a3 a4 a5 a6 a7 a8 a9 a10 : Int, t = [a0, a1, a2, a3, a4, a5, a6, a7, a8, a9, a10] := by
      match t, hkt with
      | [a0, a1, a2, a3, a4, a5, a6, a7, a8, a9, a10], _ => exact ⟨a0, a1, a2, a3, a4, a5, a6, a7, a8, a9, a10, rfl⟩
    obtain rfl : jv = 54 := by omega
    conv => arg 4; cbv
    cases hb : F .leI 16 uv
    case' true =>
      have hle := leI1 hF hb
      obtain ⟨c, hc⟩ : ∃ z, z = ((hexC (n % 16)).toNat : Int) := ⟨_, rfl⟩
      obtain ⟨g1, g2⟩ := fb_state h 0 n _ hhex (by omega) ht
      rw [← hc] at g1 g2
      conv => arg 4; cbv
      rw [show F .getS [48, 49, 50, 51, 52, 53, 54, 55, 56, 57, 97, 98, 99, 100, 101, 102, 103, 104, 105, 106, 107, 108, 109, 110, 111, 112, 113, 114, 115, 116, 117, 118, 119, 120, 121, 122] (F .bits .and .u64 uv 15) = some c by rw [hc]; exact l_getS hF (dig_at (n % 16) (Nat.mod_lt _ (by decide))) (t_and15 hF huv hn64)]
      conv => arg 4; cbv
      rw [show F .wrap .i64 (F .sub 54 1) = 53 by rw [hF]; decide +kernel, show F .inB 53 65 = some 53 by rw [hF]; decide +kernel]
      conv => arg 4; cbv
      obtain ⟨u2, hu2⟩ : ∃ z : Int, z = ((n / 16 : Nat) : Int) := ⟨_, rfl⟩
      rw [t_shr4 hF huv hn64, ← hu2]
      conv => arg 4; cbv
      exact AKp.again _ hfr (by repeat (first | exact True.intro | refine ⟨⟨rfl, rfl⟩, ?_⟩)) (by repeat (first | exact True.intro | refine ⟨⟨rfl, rfl, rfl⟩, ?_⟩)) (hJ (n / 16) _ _ (by omega) ⟨12, _, _, [c, a0, a1, a2, a3, a4, a5, a6, a7, a8, a9, a10], hu2, by omega, rfl, by omega, by have : n < 16 * 16 ^ 4 := hn16; omega, g1, g2, rfl, rfl⟩)
    case' false =>
      have hgt := leI0 hF hb
      obtain ⟨c, hc⟩ : ∃ z, z = ((hexC n).toNat : Int) := ⟨_, rfl⟩
      obtain ⟨g1, g2⟩ := fb_end h n _ hhex (by omega) ht
      rw [← hc] at g1 g2
      conv => arg 4; cbv
      rw [show F .getS [48, 49, 50, 51, 52, 53, 54, 55, 56, 57, 97, 98, 99, 100, 101, 102, 103, 104, 105, 106, 107, 108, 109, 110, 111, 112, 113, 114, 115, 116, 117, 118, 119, 120, 121, 122] uv = some c by rw [hc]; exact l_getS hF (dig_at n (by omega)) huv]
      conv => arg 4; cbv
      rw [show F .wrap .i64 (F .sub 54 1) = 53 by rw [hF]; decide +kernel, show F .inB 53 65 = some 53 by rw [hF]; decide +kernel]
      conv => arg 4; cbv
      refine AKp.sliceArr hF hnt 53 rfl rfl rfl rfl rfl rfl rfl (Nat.le_of_ble_eq_true rfl) (Nat.le_of_ble_eq_true rfl) (fun b w => by kernel_rfl) rfl ?_
      conv => arg 4; cbv
      obtain ⟨D, hD⟩ : ∃ D, D = hexD h := ⟨_, rfl⟩
      rw [← hD] at g1 ⊢
      rw [show F .strD [.s (.int .u8 c), .s (.int .u8 a0), .s (.int .u8 a1), .s (.int .u8 a2), .s (.int .u8 a3), .s (.int .u8 a4), .s (.int .u8 a5), .s (.int .u8 a6), .s (.int .u8 a7), .s (.int .u8 a8), .s (.int .u8 a9), .s (.int .u8 a10)] = some D by rw [← g1, hF]; exact strOf_ints g2]
      conv => arg 4; cbv
      exact AKp.doneE tabOK hfr (by rfl) (by rfl)
  · obtain ⟨a0, a1, a2, a3, a4, a5, a6, a7, a8, a9, a10, a11, rfl⟩ : ∃ a0 a1 a2 a3 a4 a5 a6 a7 a8 a9 a10 a11 : Int, t = [a0, a1, a2, a3, a4, a5, a6, a7, a8, a9, a10, a11] := by
      match t, hkt with
      | [a0, a1, a2, a3, a4, a5, a6, a7, a8, a9, a10, a11], _ => exact ⟨a0, a1, a2, a3, a4, a5, a6, a7, a8, a9, a10, a11, rfl⟩
    obtain rfl : jv = 53 := by omega
    conv => arg 4; cbv
    cases hb : F .leI 16 uv
    case' true =>
      have hle := leI1 hF hb
      obtain ⟨c, hc⟩ : ∃ z, z = ((hexC (n % 16)).toNat : Int) := ⟨_, rfl⟩
      obtain ⟨g1, g2⟩ := fb_state h 0 n _ hhex (by omega) ht
      rw [← hc] at g1 g2
      conv => arg 4; cbv
      rw [show F .getS [48, 49, 50, 51, 52, 53, 54, 55, 56, 57, 97, 98, 99, 100, 101, 102, 103, 104, 105, 106, 107, 108, 109, 110, 111, 112, 113, 114, 115, 116, 117, 118, 119, 120, 121, 122] (F .bits .and .u64 uv 15) = some c by rw [hc]; exact l_getS hF (dig_at (n % 16) (Nat.mod_lt _ (by decide))) (t_and15 hF huv hn64)]
      conv => arg 4; cbv
      rw [show F .wrap .i64 (F .sub 53 1) = 52 by rw [hF]; decide +kernel, show F .inB 52 65 = some 52 by rw [hF]; decide +kernel]
      conv => arg 4; cbv
      obtain ⟨u2, hu2⟩ : ∃ z : Int, z = ((n / 16 : Nat) : Int) := ⟨_, rfl⟩
      rw [t_shr4 hF huv hn64, ← hu2]
      conv => arg 4; cbv
      exact AKp.again _ hfr (by repeat (first | exact True.intro | refine ⟨⟨rfl, rfl⟩, ?_⟩)) (by repeat (first | exact True.intro | refine ⟨⟨rfl, rfl, rfl⟩, ?_⟩)) (hJ (n / 16) _ _ (by omega) ⟨13, _, _, [c, a0, a1, a2, a3, a4, a5, a6, a7, a8, a9, a10, a11], hu2, by omega, rfl, by omega, by have : n < 16 * 16 ^ 3 := hn16; omega, g1, g2, rfl, rfl⟩)
    case' false =>
      have hgt := leI0 hF hb
      obtain ⟨c, hc⟩ : ∃ z, z = ((hexC n).toNat : Int) := ⟨_, rfl⟩
      obtain ⟨g1, g2⟩ := fb_end h n _ hhex (by omega) ht
      rw [← hc] at g1 g2
      conv => arg 4; cbv
      rw [show F .getS [48, 49, 50, 51, 52, 53, 54, 55, 56, 57, 97, 98, 99, 100, 101, 102, 103, 104, 105, 106, 107, 108, 109, 110, 111, 112, 113, 114, 115, 116, 117, 118, 119, 120, 121, 122] uv = some c by rw [hc]; exact l_getS hF (dig_at n (by omega)) huv]
      conv => arg 4; cbv
      rw [show F .wrap .i64 (F .sub 53 1) = 52 by rw [hF]; decide +kernel, show F .inB 52 65 = some 52 by rw [hF]; decide +kernel]
      conv => arg 4; cbv
      refine AKp.sliceArr hF hnt 52 rfl rfl rfl rfl rfl rfl rfl (Nat.le_of_ble_eq_true rfl) (Nat.le_of_ble_eq_true rfl) (fun b w => by kernel_rfl) rfl ?_
      conv => arg 4; cbv
      obtain ⟨D, hD⟩ : ∃ D, D = hexD h := ⟨_, rfl⟩
      rw [← hD] at g1 ⊢
      rw [show F .strD [.s (.int .u8 c), .s (.int .u8 a0), .s (.int .u8 a1), .s (.int .u8 a2), .s (.int .u8 a3), .s (.int .u8 a4), .s (.int .u8 a5), .s (.int .u8 a6), .s (.int .u8 a7), .s (.int .u8 a8), .s (.int .u8 a9), .s (.int .u8 a10), .s (.int .u8 a11)] = some D by rw [← g1, hF]; exact strOf_ints g2]
      conv => arg 4; cbv
      exact AKp.doneE tabOK hfr (by rfl) (by rfl)
  · obtain ⟨a0, a1, a2, a3, a4, a5, a6, a7, a8, a9, a10, a11, a12, rfl⟩ : ∃ a0 a1 a2 a3 a4 a5 a6 a7 a8 a9 a10 a11 a12 : Int, t = [a0, a1, a2, a3, a4, a5, a6, a7, a8, a9, a10, a11, a12] := by
      match t, hkt with
      | [a0, a1, a2, a3, a4, a5, a6, a7, a8, a9, a10, a11, a12], _ => exact ⟨a0, a1, a2, a3, a4, a5, a6, a7, a8, a9, a10, a11, a12, rfl⟩
    obtain rfl : jv = 52 := by omega
    conv => arg 4; cbv
    cases hb : F .leI 16 uv
    case' true =>
      have hle := leI1 hF hb
      obtain ⟨c, hc⟩ : ∃ z, z = ((hexC (n % 16)).toNat : Int) := ⟨_, rfl⟩
      obtain ⟨g1, g2⟩ := fb_state h 0 n _ hhex (by omega) ht
      rw [← hc] at g1 g2
      conv => arg 4; cbv
      rw [show F .getS [48, 49, 50, 51, 52, 53, 54, 55, 56, 57, 97, 98, 99, 100, 101, 102, 103, 104, 105, 106, 107, 108, 109, 110, 111, 112, 113, 114, 115, 116, 117, 118, 119, 120, 121, 122] (F .bits .and .u64 uv 15) = some c by rw [hc]; exact l_getS hF (dig_at (n % 16) (Nat.mod_lt _ (by decide))) (t_and15 hF huv hn64)]
      conv => arg 4; cbv
      rw [show F .wrap .i64 (F .sub 52 1) = 51 by rw [hF]; decide +kernel, show F .inB 51 65 = some 51 by rw [hF]; decide +kernel]
      conv => arg 4; cbv
      obtain ⟨u2, hu2⟩ : ∃ z : Int, z = ((n / 16 : Nat) : Int) := ⟨_, rfl⟩
      rw [t_shr4 hF huv hn64, ← hu2]
      conv => arg 4; cbv
      exact AKp.again _ hfr (by repeat (first | exact True.intro | refine ⟨⟨rfl, rfl⟩, ?_⟩)) (by repeat (first | exact True.intro | refine ⟨⟨rfl, rfl, rfl⟩, ?_⟩)) (hJ (n / 16) _ _ (by omega) ⟨14, _, _, [c, a0, a1, a2, a3, a4, a5, a6, a7, a8, a9, a10, a11, a12], hu2, by omega, rfl, by omega, by have : n < 16 * 16 ^ 2 := hn16; omega, g1, g2, rfl, rfl⟩)
    case' false =>
      have hgt := leI0 hF hb
      obtain ⟨c, hc⟩ : ∃ z, z = ((hexC n).toNat : Int) := ⟨_, rfl⟩
      obtain ⟨g1, g2⟩ := fb_end h n _ hhex (by omega) ht
      rw [← hc] at g1 g2
      conv => arg 4; cbv
      rw [show F .getS [48, 49, 50, 51, 52, 53, 54, 55, 56, 57, 97, 98, 99, 100, 101, 102, 103, 104, 105, 106, 107, 108, 109, 110, 111, 112, 113, 114, 115, 116, 117, 118, 119, 120, 121, 122] uv = some c by rw [hc]; exact l_getS hF (dig_at n (by omega)) huv]
      conv => arg 4; cbv
      rw [show F .wrap .i64 (F .sub 52 1) = 51 by rw [hF]; decide +kernel, show F .inB 51 65 = some 51 by rw [hF]; decide +kernel]
      conv => arg 4; cbv
      refine AKp.sliceArr hF hnt 51 rfl rfl rfl rfl rfl rfl rfl (Nat.le_of_ble_eq_true rfl) (Nat.le_of_ble_eq_true rfl) (fun b w => by kernel_rfl) rfl ?_
      conv => arg 4; cbv
      obtain ⟨D, hD⟩ : ∃ D, D = hexD h := ⟨_, rfl⟩
      rw [← hD] at g1 ⊢
      rw [show F .strD [.s (.int .u8 c), .s (.int .u8 a0), .s (.int .u8 a1), .s (.int .u8 a2), .s (.int .u8 a3), .s (.int .u8 a4), .s (.int .u8 a5), .s (.int .u8 a6), .s (.int .u8 a7), .s (.int .u8 a8), .s (.int .u8 a9), .s (.int .u8 a10), .s (.int .u8 a11), .s (.int .u8 a12)] = some D by rw [← g1, hF]; exact strOf_ints g2]
      conv => arg 4; cbv
      exact AKp.doneE tabOK hfr (by rfl) (by rfl)
  · obtain ⟨a0, a1, a2, a3, a4, a5, a6, a7, a8, a9, a10, a11, a12, a13, rfl⟩ : ∃ a0 a1 a2 a3 a4 a5 a6 a7 a8 a9 a10 a11 a12 a13 : Int, t = [a0, a1, a2, a3, a4, a5, a6, a7, a8, a9, a10, a11, a12, a13] := by
      match t, hkt with
      | [a0, a1, a2, a3, a4, a5, a6, a7, a8, a9, a10, a11, a12, a13], _ => exact ⟨a0, a1, a2, a3, a4, a5, a6, a7, a8, a9, a10, a11, a12, a13, rfl⟩
    obtain rfl : jv = 51 := by omega
    conv => arg 4; cbv
    cases hb : F .leI 16 uv
    case' true =>
      have hle := leI1 hF hb
      obtain ⟨c, hc⟩ : ∃ z, z = ((hexC (n % 16)).toNat : Int) := ⟨_, rfl⟩
      obtain ⟨g1, g2⟩ := fb_state h 0 n _ hhex (by omega) ht
      rw [← hc] at g1 g2
      conv => arg 4; cbv
      rw [show F .getS [48, 49, 50, 51, 52, 53, 54, 55, 56, 57, 97, 98, 99, 100, 101, 102, 103, 104, 105, 106, 107, 108, 109, 110, 111, 112, 113, 114, 115, 116, 117, 118, 119, 120, 121, 122] (F .bits .and .u64 uv 15) = some c by rw [hc]; exact l_getS hF (dig_at (n % 16) (Nat.mod_lt _ (by decide))) (t_and15 hF huv hn64)]
      conv => arg 4; cbv
      rw [show F .wrap .i64 (F .sub 51 1) = 50 by rw [hF]; decide +kernel, show F .inB 50 65 = some 50 by rw [hF]; decide +kernel]
      conv => arg 4; cbv
      obtain ⟨u2, hu2⟩ : ∃ z : Int, z = ((n / 16 : Nat) : Int) := ⟨_, rfl⟩
      rw [t_shr4 hF huv hn64, ← hu2]
      conv => arg 4; cbv
      exact AKp.again _ hfr (by repeat (first | exact True.intro | refine ⟨⟨rfl, rfl⟩, ?_⟩)) (by repeat (first | exact True.intro | refine ⟨⟨rfl, rfl, rfl⟩, ?_⟩)) (hJ (n / 16) _ _ (by omega) ⟨15, _, _, [c, a0, a1, a2, a3, a4, a5, a6, a7, a8, a9, a10, a11, a12, a13], hu2, by omega, rfl, by omega, by have : n < 16 * 16 ^ 1 := hn16; omega, g1, g2, rfl, rfl⟩)
    case' false =>
      have hgt := leI0 hF hb
      obtain ⟨c, hc⟩ : ∃ z, z = ((hexC n).toNat : Int) := ⟨_, rfl⟩
      obtain ⟨g1, g2⟩ := fb_end h n _ hhex (by omega) ht
      rw [← hc] at g1 g2
      conv => arg 4; cbv
      rw [show F .getS [48, 49, 50, 51, 52, 53, 54, 55, 56, 57, 97, 98, 99, 100, 101, 102, 103, 104, 105, 106, 107, 108, 109, 110, 111, 112, 113, 114, 115, 116, 117, 118, 119, 120, 121, 122] uv = some c by rw [hc]; exact l_getS hF (dig_at n (by omega)) huv]
      conv => arg 4; cbv
      rw [show F .wrap .i64 (F .sub 51 1) = 50 by rw [hF]; decide +kernel, show F .inB 50 65 = some 50 by rw [hF]; decide +kernel]
      conv => arg 4; cbv
      refine AKp.sliceArr hF hnt 50 rfl rfl rfl rfl rfl rfl rfl (Nat.le_of_ble_eq_true rfl) (Nat.le_of_ble_eq_true rfl) (fun b w => by kernel_rfl) rfl ?_
      conv => arg 4; cbv
      obtain ⟨D, hD⟩ : ∃ D, D = hexD h := ⟨_, rfl⟩
      rw [← hD] at g1 ⊢
      rw [show F .strD [.s (.int .u8 c), .s (.int .u8 a0), .s (.int .u8 a1), .s (.int .u8 a2), .s (.int .u8 a3), .s (.int .u8 a4), .s (.int .u8 a5), .s (.int .u8 a6), .s (.int .u8 a7), .s (.int .u8 a8), .s (.int .u8 a9), .s (.int .u8 a10), .s (.int .u8 a11), .s (.int .u8 a12), .s (.int .u8 a13)] = some D by rw [← g1, hF]; exact strOf_ints g2]
      conv => arg 4; cbv
      exact AKp.doneE tabOK hfr (by rfl) (by rfl)
  · obtain ⟨a0, a1, a2, a3, a4, a5, a6, a7, a8, a9, a10, a11, a12, a13, a14, rfl⟩ : ∃ a0 a1 a2 a3 a4 a5 a6 a7 a8 a9 a10 a11 a12 a13 a14 : Int, t = [a0, a1, a2, a3, a4, a5, a6, a7, a8, a9, a10, a11, a12, a13, a14] := by
      match t, hkt with
      | [a0, a1, a2, a3, a4, a5, a6, a7, a8, a9, a10, a11, a12, a13, a14], _ => exact ⟨a0, a1, a2, a3, a4, a5, a6, a7, a8, a9, a10, a11, a12, a13, a14, rfl⟩
    obtain rfl : jv = 50 := by omega
    conv => arg 4; cbv
    cases hb : F .leI 16 uv
    case' true =>
      have hle := leI1 hF hb
      exact absurd hle (by have : n < 16 := hn16; omega)
    case' false =>
      have hgt := leI0 hF hb
      obtain ⟨c, hc⟩ : ∃ z, z = ((hexC n).toNat : Int) := ⟨_, rfl⟩
      obtain ⟨g1, g2⟩ := fb_end h n _ hhex (by omega) ht
      rw [← hc] at g1 g2
      conv => arg 4; cbv
      rw [show F .getS [48, 49, 50, 51, 52, 53, 54, 55, 56, 57, 97, 98, 99, 100, 101, 102, 103, 104, 105, 106, 107, 108, 109, 110, 111, 112, 113, 114, 115, 116, 117, 118, 119, 120, 121, 122] uv = some c by rw [hc]; exact l_getS hF (dig_at n (by omega)) huv]
      conv => arg 4; cbv
      rw [show F .wrap .i64 (F .sub 50 1) = 49 by rw [hF]; decide +kernel, show F .inB 49 65 = some 49 by rw [hF]; decide +kernel]
      conv => arg 4; cbv
      refine AKp.sliceArr hF hnt 49 rfl rfl rfl rfl rfl rfl rfl (Nat.le_of_ble_eq_true rfl) (Nat.le_of_ble_eq_true rfl) (fun b w => by kernel_rfl) rfl ?_
      conv => arg 4; cbv
      obtain ⟨D, hD⟩ : ∃ D, D = hexD h := ⟨_, rfl⟩
      rw [← hD] at g1 ⊢
      rw [show F .strD [.s (.int .u8 c), .s (.int .u8 a0), .s (.int .u8 a1), .s (.int .u8 a2), .s (.int .u8 a3), .s (.int .u8 a4), .s (.int .u8 a5), .s (.int .u8 a6), .s (.int .u8 a7), .s (.int .u8 a8), .s (.int .u8 a9), .s (.int .u8 a10), .s (.int .u8 a11), .s (.int .u8 a12), .s (.int .u8 a13), .s (.int .u8 a14)] = some D by rw [← g1, hF]; exact strOf_ints g2]
      conv => arg 4; cbv
      exact AKp.doneE tabOK hfr (by rfl) (by rfl)
end Go.Proofs.YtmhkmoeailamlaaDoor

/- Sixteen digits. -/
namespace Go.Proofs.YtmhkmoeailamlaaDoor
open Go Go.Proofs Go.Ua Go.Extern
set_option linter.unusedVariables false
set_option linter.unusedSimpArgs false

/-- The last k digits. -/
def hexN : Nat → Nat → List UInt8
  | 0, _ => []
  | k + 1, n => hexN k (n / 16) ++ [hexC (n % 16)]
theorem hexN_len : ∀ (k n : Nat), (hexN k n).length = k
  | 0, _ => rfl
  | k + 1, n => by simp [hexN, hexN_len k]
theorem hexN_D : ∀ (k n : Nat), n < 16 ^ (k + 1) → (hexD n).length ≤ k + 1 ∧ hexN (k + 1) n = List.replicate (k + 1 - (hexD n).length) 48 ++ hexD n
  | 0, n, h => by
    have h : n < 16 := h
    rw [hexD_small h]
    simp [hexN, Nat.mod_eq_of_lt h]
  | k + 1, n, h => by
    have h : n < 16 ^ (k + 1) * 16 := h
    rw [show hexN (k + 1 + 1) n = hexN (k + 1) (n / 16) ++ [hexC (n % 16)] from rfl]
    obtain ⟨g1, g2⟩ := hexN_D k (n / 16) (by omega)
    rw [g2]
    by_cases hs : n < 16
    · have e : n / 16 = 0 := by omega
      rw [e, hexD_small hs, hexD_small (by decide : 0 < 16), Nat.mod_eq_of_lt hs]
      refine ⟨by simp, ?_⟩
      show List.replicate k 48 ++ [48] ++ [hexC n] = List.replicate (k + 1) 48 ++ [hexC n]
      rw [List.replicate_succ']
    · rw [hexD_big hs]
      simp only [List.length_append, List.length_singleton]
      refine ⟨by omega, ?_⟩
      rw [show k + 1 + 1 - ((hexD (n / 16)).length + 1) = k + 1 - (hexD (n / 16)).length by omega]
      simp

end Go.Proofs.YtmhkmoeailamlaaDoor

/- Back from sixteen digits. -/
namespace Go.Proofs.YtmhkmoeailamlaaDoor
open Go Go.Proofs Go.Ua Go.Extern
set_option linter.unusedVariables false
set_option linter.unusedSimpArgs false

def hexOK (c : UInt8) : Bool := (decide (48 ≤ c.toNat) && decide (c.toNat ≤ 57)) || (decide (97 ≤ c.toNat) && decide (c.toNat ≤ 102))
def hexV (c : UInt8) : Nat := if c.toNat ≤ 57 then c.toNat - 48 else c.toNat - 87
def foldH (w : List UInt8) : Nat := w.foldl (fun n c => 16 * n + hexV c) 0
def unhexB (w : List UInt8) : Bool := decide (w.length = 16) && w.all hexOK
def unhexV (w : List UInt8) : Int := if unhexB w = true then (foldH w : Int) else 0
theorem foldH_take {w : List UInt8} {i : Nat} {c : UInt8} (h : w[i]? = some c) : foldH (w.take (i + 1)) = 16 * foldH (w.take i) + hexV c := by
  rw [List.take_add_one, h]
  simp [foldH, List.foldl_append]
theorem hexV_lt {c : UInt8} (h : hexOK c = true) : hexV c < 16 := by
  unfold hexOK at h
  unfold hexV
  simp only [Bool.or_eq_true, Bool.and_eq_true, decide_eq_true_eq] at h
  split <;> omega
theorem foldH_lt {w : List UInt8} : ∀ (i : Nat), i ≤ w.length → (w.take i).all hexOK = true → foldH (w.take i) < 16 ^ i := by
  intro i
  induction i with
  | zero => intro _ _; simp [foldH]
  | succ i ih =>
    intro hi hall
    obtain ⟨c, hc⟩ : ∃ c, w[i]? = some c := ⟨_, List.getElem?_eq_getElem (by omega)⟩
    rw [List.take_add_one, hc] at hall
    simp only [Option.toList_some, List.all_append, Bool.and_eq_true, List.all_cons, List.all_nil, Bool.and_true] at hall
    have := ih (by omega) hall.1
    have h2 := hexV_lt hall.2
    rw [foldH_take hc, Nat.pow_succ]
    omega
theorem ib_hex (c : UInt8) : Lib.indexByte [48, 49, 50, 51, 52, 53, 54, 55, 56, 57, 97, 98, 99, 100, 101, 102] c = if hexOK c = true then (hexV c : Int) else -1 := by
  have e : ∀ n : Nat, n < 256 → Lib.indexByte [48, 49, 50, 51, 52, 53, 54, 55, 56, 57, 97, 98, 99, 100, 101, 102] (UInt8.ofNat n) = if hexOK (UInt8.ofNat n) = true then (hexV (UInt8.ofNat n) : Int) else -1 := by decide +kernel
  have := e c.toNat (UInt8.toNat_lt c)
  rwa [UInt8.ofNat_toNat] at this
theorem or16 (a k : Nat) (hk : k < 16) (ha : a < 1152921504606846976) : bits .or .u64 ((16 * a : Nat) : Int) (k : Int) = ((16 * a + k : Nat) : Int) := by
  rw [bits_or_u64_nat (16 * a) k (by omega) (by omega)]
  rw [show 16 * a = 2 ^ 4 * a by rfl, ← Nat.two_pow_add_eq_or_of_lt (by omega : k < 2 ^ 4)]

theorem IndexByteI_spec (s : List UInt8) (n : Int) : ESpec Tryd.prog 56 [.d (.s (.str s)), .d (.s (.int .u8 n))] (fun x => x = .d (.s (.int .i64 (Lib.indexByte s (UInt8.ofNat n.toNat))))) :=
  ESpec.ok (enters_of Tryd.func56 (by kernel_rfl) rfl) fun hok => by
    have := IndexByte_spec s (UInt8.ofNat n.toNat)
    rwa [u8_of hok.2.1] at this
def φIndexByte (u : List UInt8 → Int → Int) : List AV → Option (Bool × AV)
  | [.d (.s (.str s)), .d (.s (.int .u8 n))] => some (true, .d (.s (.int .i64 (u s n))))
  | _ => none
theorem φIndexByte_ok : SpOK Tryd.prog 56 (φIndexByte (fun s n => Lib.indexByte s (UInt8.ofNat n.toNat))) := by
  intro xs b x h hb
  unfold φIndexByte at h
  split at h
  · simp only [Option.some.injEq, Prod.mk.injEq] at h
    obtain ⟨rfl, rfl⟩ := h
    exact IndexByteI_spec _ _
  · cases h

end Go.Proofs.YtmhkmoeailamlaaDoor

/- Digits in order: plain laws. -/
namespace Go.Proofs.YtmhkmoeailamlaaDoor
open Go Go.Proofs Go.Ua Go.Extern
set_option linter.unusedVariables false
set_option linter.unusedSimpArgs false

theorem asymm8 : ∀ {x y : List UInt8}, x < y → ¬ y < x
  | [], [], h => absurd h (by simp)
  | [], _ :: _, _ => by simp
  | _ :: _, [], h => absurd h (by simp)
  | a :: x, b :: y, h => by
    rw [List.cons_lt_cons_iff] at h ⊢
    rintro (h2 | ⟨rfl, h2⟩)
    · rcases h with h | ⟨rfl, _⟩
      · rw [UInt8.lt_iff_toNat_lt] at h h2; omega
      · rw [UInt8.lt_iff_toNat_lt] at h2; omega
    · rcases h with h | ⟨_, h⟩
      · rw [UInt8.lt_iff_toNat_lt] at h; omega
      · exact asymm8 h h2

theorem snoc_lt : ∀ {x y : List UInt8} {c d : UInt8}, x.length = y.length → ((x ++ [c]) < (y ++ [d]) ↔ x < y ∨ (x = y ∧ c < d))
  | [], [], c, d, _ => by simp [List.cons_lt_cons_iff]
  | [], _ :: _, _, _, h => by simp at h
  | _ :: _, [], _, _, h => by simp at h
  | a :: x, b :: y, c, d, h => by
    have ih := snoc_lt (x := x) (y := y) (c := c) (d := d) (by simpa using h)
    simp only [List.cons_append, List.cons_lt_cons_iff, ih, List.cons.injEq]
    constructor
    · rintro (g | ⟨rfl, g | ⟨rfl, g⟩⟩)
      · exact .inl (.inl g)
      · exact .inl (.inr ⟨rfl, g⟩)
      · exact .inr ⟨⟨rfl, rfl⟩, g⟩
    · rintro ((g | ⟨rfl, g⟩) | ⟨⟨rfl, rfl⟩, g⟩)
      · exact .inl g
      · exact .inr ⟨rfl, .inl g⟩
      · exact .inr ⟨rfl, .inr ⟨rfl, g⟩⟩

def before (a b : List UInt8) : Prop := a.length < b.length ∨ (a.length = b.length ∧ a < b)

theorem dig_small {n : Nat} (h : n < 10) : Lib.decDigits n = [UInt8.ofNat (48 + n)] := by rw [Lib.decDigits, dif_pos h]
theorem dig_big {n : Nat} (h : ¬ n < 10) : Lib.decDigits n = Lib.decDigits (n / 10) ++ [UInt8.ofNat (48 + n % 10)] := by rw [Lib.decDigits, dif_neg h]
theorem dig_pos (n : Nat) : 1 ≤ (Lib.decDigits n).length := by
  by_cases h : n < 10
  · rw [dig_small h]; simp
  · rw [dig_big h]; simp
theorem d8_lt {a b : Nat} (ha : a < 10) (hb : b < 10) : UInt8.ofNat (48 + a) < UInt8.ofNat (48 + b) ↔ a < b := by
  rw [UInt8.lt_iff_toNat_lt]
  simp
  omega

theorem before_of_lt : ∀ (m n : Nat), n < m → before (Lib.decDigits n) (Lib.decDigits m) := by
  intro m
  induction m using Nat.strongRecOn with
  | _ m ih =>
    intro n h
    by_cases hm : m < 10
    · have hn : n < 10 := by omega
      rw [dig_small hm, dig_small hn]
      refine .inr ⟨rfl, ?_⟩
      rw [List.cons_lt_cons_iff]
      exact .inl ((d8_lt hn hm).2 h)
    · rw [dig_big hm]
      by_cases hn : n < 10
      · rw [dig_small hn]
        refine .inl ?_
        have := dig_pos (m / 10)
        simp; omega
      · rw [dig_big hn]
        rcases Nat.lt_or_ge (n / 10) (m / 10) with h1 | h1
        · rcases ih (m / 10) (by omega) (n / 10) h1 with h2 | ⟨h2, h3⟩
          · exact .inl (by simp; omega)
          · exact .inr ⟨by simp [h2], (snoc_lt h2).2 (.inl h3)⟩
        · have e : n / 10 = m / 10 := by omega
          rw [e]
          exact .inr ⟨by simp, (snoc_lt rfl).2 (.inr ⟨rfl, (d8_lt (by omega) (by omega)).2 (by omega)⟩)⟩

theorem before_asymm {a b : List UInt8} (h : before a b) : ¬ before b a := by
  rintro (h2 | ⟨h2, h3⟩)
  · rcases h with h | ⟨h, _⟩ <;> omega
  · rcases h with h | ⟨_, h⟩
    · omega
    · exact asymm8 h h3
theorem before_irrefl (a : List UInt8) : ¬ before a a := fun h => before_asymm h h

theorem before_iff (n m : Nat) : n < m ↔ before (Lib.decDigits n) (Lib.decDigits m) := by
  refine ⟨before_of_lt m n, fun h => ?_⟩
  rcases Nat.lt_trichotomy n m with h1 | h1 | h1
  · exact h1
  · subst h1; exact absurd h (before_irrefl _)
  · exact absurd h (before_asymm (before_of_lt n m h1))
theorem dig_inj {n m : Nat} (h : Lib.decDigits n = Lib.decDigits m) : n = m := by
  rcases Nat.lt_trichotomy n m with h1 | h1 | h1
  · have := before_of_lt m n h1; rw [h] at this; exact absurd this (before_irrefl _)
  · exact h1
  · have := before_of_lt n m h1; rw [h] at this; exact absurd this (before_irrefl _)
end Go.Proofs.YtmhkmoeailamlaaDoor

/- Numbers and their digits: plain laws; the reference's numbers. -/
namespace Go.Proofs.YtmhkmoeailamlaaDoor
open Go Go.Proofs Go.Ua Go.Extern
set_option linter.unusedVariables false
set_option linter.unusedSimpArgs false

theorem valN_snoc (p : List UInt8) (c : UInt8) : valN (p ++ [c]) = 10 * valN p + (c.toNat - 48) := by simp [valN, List.foldl_append]
theorem dig_byte {d : Nat} (h : d < 10) : (UInt8.ofNat (48 + d)).toNat = 48 + d := by rw [UInt8.toNat_ofNat']; omega
theorem dig_head : ∀ n : Nat, 1 ≤ n → ∃ c r, Lib.decDigits n = c :: r ∧ c ≠ 48
  | n, h => by
    by_cases hs : n < 10
    · refine ⟨_, _, dig_small hs, fun e => ?_⟩
      have := congrArg UInt8.toNat e
      rw [dig_byte hs] at this
      simp at this; omega
    · obtain ⟨c, r, h1, h2⟩ := dig_head (n / 10) (by omega)
      rw [dig_big hs, h1]
      exact ⟨c, r ++ [UInt8.ofNat (48 + n % 10)], rfl, h2⟩
theorem dig_val : ∀ n : Nat, valN (Lib.decDigits n) = n
  | n => by
    by_cases hs : n < 10
    · rw [dig_small hs]
      simp only [valN, List.foldl_cons, List.foldl_nil]
      rw [dig_byte hs]; omega
    · have ih := dig_val (n / 10)
      rw [dig_big hs, valN_snoc, ih, dig_byte (Nat.mod_lt _ (by decide))]
      omega
theorem dig_all : ∀ n : Nat, (Lib.decDigits n).all digB = true
  | n => by
    by_cases hs : n < 10
    · rw [dig_small hs]
      simp only [List.all_cons, List.all_nil, Bool.and_true]
      unfold digB digitN
      rw [dig_byte hs, decide_eq_true (by omega), decide_eq_true (by omega)]; rfl
    · have ih := dig_all (n / 10)
      rw [dig_big hs, List.all_append, ih]
      simp only [List.all_cons, List.all_nil, Bool.and_true, Bool.true_and]
      unfold digB digitN
      rw [dig_byte (Nat.mod_lt _ (by decide)), decide_eq_true (by omega), decide_eq_true (by omega)]; rfl
theorem dig_len : ∀ (k n : Nat), n < 10 ^ (k + 1) → (Lib.decDigits n).length ≤ k + 1
  | 0, n, h => by rw [dig_small h]; simp
  | k + 1, n, h => by
    have h : n < 10 ^ (k + 1) * 10 := h
    by_cases hs : n < 10
    · rw [dig_small hs]; simp
    · have := dig_len k (n / 10) (by omega)
      rw [dig_big hs]
      simp; omega
/-- Digits that don't begin with a needless 0 are the digits of their number. -/
theorem val_dig {w : List UInt8} (h0 : w ≠ []) (hall : w.all digB = true) (hlead : 1 < w.length → w[0]? ≠ some 48) : Lib.decDigits (valN w) = w := by
  induction hn : w.length using Nat.strongRecOn generalizing w with
  | _ k ih =>
    obtain ⟨p, c, rfl⟩ : ∃ p c, w = p ++ [c] := ⟨w.dropLast, w.getLast h0, (List.dropLast_concat_getLast h0).symm⟩
    simp only [List.all_append, List.all_cons, List.all_nil, Bool.and_true, Bool.and_eq_true] at hall
    have hd := digB_le hall.2
    rw [valN_snoc]
    have hc : UInt8.ofNat (48 + (c.toNat - 48)) = c := by
      rw [show 48 + (c.toNat - 48) = c.toNat by omega, UInt8.ofNat_toNat]
    by_cases hp : p = []
    · subst hp
      rw [show valN [] = 0 from rfl, dig_small (by omega)]
      simp only [Nat.mul_zero, Nat.zero_add, List.nil_append]
      rw [hc]
    · have hlen : 1 < (p ++ [c]).length := by
        have := List.length_pos_iff.2 hp
        simp; omega
      have hl := hlead hlen
      rw [List.getElem?_append_left (List.length_pos_iff.2 hp)] at hl
      have := ih p.length (by simp at hn; omega) (w := p) hp hall.1 (fun _ => hl) rfl
      have hpos : 1 ≤ valN p := by
        rcases Nat.eq_zero_or_pos (valN p) with e | e
        · rw [e, dig_small (by decide)] at this
          rw [← this] at hl
          exact absurd rfl hl
        · exact e
      rw [dig_big (by omega), show (10 * valN p + (c.toNat - 48)) / 10 = valN p by omega, show (10 * valN p + (c.toNat - 48)) % 10 = c.toNat - 48 by omega, this, hc]
theorem num_dig {w : List UInt8} (hall : w.all digB = true) (h9 : w.length ≤ 9) : numForm w = decide (Lib.decDigits (valN w) = w) := by
  rw [Bool.eq_iff_iff, decide_eq_true_eq]
  unfold numForm
  constructor
  · intro h
    simp only [Bool.and_eq_true, decide_eq_true_eq, Bool.not_eq_true', Bool.and_eq_false_iff, decide_eq_false_iff_not] at h
    refine val_dig (by rintro rfl; simp at h) hall fun h1 => ?_
    rcases h.1.2 with h2 | h2
    · exact absurd h1 h2
    · exact h2
  · intro h
    have hp := dig_pos (valN w)
    rw [h] at hp
    rw [decide_eq_true hp, decide_eq_true h9, hall]
    simp only [Bool.true_and, Bool.and_true, Bool.not_eq_true', Bool.and_eq_false_iff, decide_eq_false_iff_not]
    by_cases h1 : 1 < w.length
    · right
      intro h2
      have hv : 1 ≤ valN w := by
        rcases Nat.eq_zero_or_pos (valN w) with e | e
        · rw [e, dig_small (by decide)] at h
          rw [← h] at h1
          exact absurd h1 (by simp)
        · exact e
      obtain ⟨c, r, h3, h4⟩ := dig_head _ hv
      rw [← h, h3] at h2
      exact h4 (Option.some.inj h2)
    · exact .inl h1
theorem num_of_dig {n : Nat} (h : n ≤ 999999999) : numForm (Lib.decDigits n) = true := by
  rw [num_dig (dig_all n) (dig_len 8 n (by omega)), dig_val]
  exact decide_eq_true rfl
end Go.Proofs.YtmhkmoeailamlaaDoor

/- The reference's digits and numbers. -/
namespace Go.Proofs.YtmhkmoeailamlaaDoor
open Go Go.Proofs Go.Ua Go.Extern
set_option linter.unusedVariables false
set_option linter.unusedSimpArgs false
set_option maxRecDepth 10000

theorem t_digit {F : Fam} (hF : F = Fam.real) {k : Nat} {v : Int} (hv : v = k) (hk : k < 10) :
    F .hasStr [.s (.int .u8 (F .wrap .u8 (F .wrap .i64 (F .add 48 v))))] = true ∧ F .ofStr [.s (.int .u8 (F .wrap .u8 (F .wrap .i64 (F .add 48 v))))] = [UInt8.ofNat (48 + k)] := by
  have h := l_digit hF hv hk
  rw [hF] at h ⊢
  rw [f_hasStr, f_ofStr]
  have h : strOf [.s (.int .u8 (Fam.real .wrap .u8 (Fam.real .wrap .i64 (Fam.real .add 48 v))))] = some [UInt8.ofNat (48 + k)] := h
  rw [h]
  exact ⟨rfl, rfl⟩

theorem RefDigitsI_spec (n : Int) : ESpec Tryd.prog 31 [.d (.s (.int .i64 n))] (fun x => x = .d (.s (.str (Lib.decDigits n.toNat)))) := by
  obtain ⟨D, hD⟩ : ∃ z, z = Lib.decDigits n.toNat := ⟨_, rfl⟩
  rw [← hD]
  refine ESpec.enter Tryd.func31 (by kernel_rfl) rfl (Nat.le_of_ble_eq_true rfl) fun hok cx hnt hfr => ?_
  obtain ⟨F, hF⟩ := real_ex
  refine AK.runT hF tabOK hmix hnt hfr true [] trivial ?_
  conv => arg 4; cbv
  have hok1 : n ≤ 9223372036854775807 := hok.1.2
  have hDl : D.length ≤ 21 := by rw [hD]; exact decDigits_le _ (by omega)
  have start : ∀ (kv : Int), (F .ltI n 0 = true → kv = 0) → (F .ltI n 0 = false → kv = n) → kv = (n.toNat : Int) := fun kv h1 h2 => by
    cases h : F .ltI n 0
    · rw [h2 h]; simp only [hF, f_ltI, f_leI, f_eqI, f_eqS, f_eqB, f_not, f_andB, f_orB, f_lenS, f_lenD, f_hasS, f_atS, f_hasC, f_subS, f_hasCat, f_app, f_wrap, f_add, f_sub, f_mul, f_appD, f_fits, f_hasV, f_subV, decide_eq_true_eq, decide_eq_false_iff_not, beq_iff_eq, beq_eq_false_iff_ne, Bool.and_eq_true, Bool.and_eq_false_iff, Bool.not_eq_true, Bool.not_eq_false, Bool.not_eq_eq_eq_not, Bool.not_true, Bool.not_false] at h; omega
    · rw [h1 h]; simp only [hF, f_ltI, f_leI, f_eqI, f_eqS, f_eqB, f_not, f_andB, f_orB, f_lenS, f_lenD, f_hasS, f_atS, f_hasC, f_subS, f_hasCat, f_app, f_wrap, f_add, f_sub, f_mul, f_appD, f_fits, f_hasV, f_subV, decide_eq_true_eq, decide_eq_false_iff_not, beq_iff_eq, beq_eq_false_iff_ne, Bool.and_eq_true, Bool.and_eq_false_iff, Bool.not_eq_true, Bool.not_eq_false, Bool.not_eq_eq_eq_not, Bool.not_true, Bool.not_false] at h; omega
  refine AKt.node (fun hb0 => ?_) (fun hb0 => ?_)
  case' refine_1 => have hst := start 0 (fun _ => rfl) (fun h => by rw [hb0] at h; cases h)
  case' refine_2 => have hst := start n (fun h => by rw [hb0] at h; cases h) (fun _ => rfl)
  all_goals
    clear start
    repeat' (first | with_reducible refine AKt.have ?_ | with_reducible refine AKt.tt ?_ | with_reducible refine AKt.ff ?_ | with_reducible refine AKt.yes (by assumption) ?_ | with_reducible refine AKt.no (by assumption) ?_ | with_reducible refine AKt.node (fun hb => ?_) (fun hb => ?_) | with_reducible refine AKt.need ?_ (fun hb => ?_) | with_reducible refine AKt.leaf ?_ | ((with_reducible show _ = true); assumption))
    refine AKp.enterLoop 0 ?_
    conv => arg 7; cbv
    refine AKl.invT hF tabOK hmix hnt hfr true [] trivial (fun m vs hs => ∃ (k : Nat) (kv : Int) (s : List UInt8), k = m ∧ kv = k ∧ k ≤ 9223372036854775807 ∧ D = Lib.decDigits k ++ s ∧ vs = [(0, .d (.s (.int .i64 kv))), (3, .d (.s (.str s)))] ∧ hs = []) n.toNat ⟨n.toNat, _, [], rfl, hst, by omega, by simp [hD], rfl, rfl⟩ (by repeat (first | exact True.intro | refine ⟨⟨rfl, rfl⟩, ?_⟩)) (by repeat (first | exact True.intro | refine ⟨⟨rfl, rfl, rfl⟩, ?_⟩)) ?_
    rintro J m vs hs hJ ⟨k, kv, s, rfl, hkv, hk, hd, rfl, rfl⟩
    have hsl : s.length ≤ 21 := by rw [hd] at hDl; simp at hDl; omega
    have hr : F .tmod kv 10 = ((k % 10 : Nat) : Int) := l_rem10 hF hkv
    obtain ⟨rv, hrv⟩ : ∃ z : Int, z = ((k % 10 : Nat) : Int) := ⟨_, rfl⟩
    rw [← hrv] at hr
    conv => arg 4; cbv
    rw [hr]
    refine AKt.node (fun hb1 => ?_) (fun hb1 => ?_)
    · have hlt : ¬ k < 10 := by simp only [hF, f_ltI, f_leI, f_eqI, f_eqS, f_eqB, f_not, f_andB, f_orB, f_lenS, f_lenD, f_hasS, f_atS, f_hasC, f_subS, f_hasCat, f_app, f_wrap, f_add, f_sub, f_mul, f_appD, f_fits, f_hasV, f_subV, decide_eq_true_eq, decide_eq_false_iff_not, beq_iff_eq, beq_eq_false_iff_ne, Bool.and_eq_true, Bool.and_eq_false_iff, Bool.not_eq_true, Bool.not_eq_false, Bool.not_eq_eq_eq_not, Bool.not_true, Bool.not_false] at hb1; omega
      obtain ⟨g1, g2⟩ := t_digit hF hrv (Nat.mod_lt k (by decide))
      rw [g2, l_div10 hF hkv hk]
      have hca : F .hasCat [UInt8.ofNat (48 + k % 10)] s = true := t_hasCat hF (by simp; omega)
      have hap : F .app [UInt8.ofNat (48 + k % 10)] s = UInt8.ofNat (48 + k % 10) :: s := by rw [hF]; rfl
      rw [hap]
      repeat' (first | with_reducible refine AKt.have ?_ | with_reducible refine AKt.tt ?_ | with_reducible refine AKt.ff ?_ | with_reducible refine AKt.yes (by assumption) ?_ | with_reducible refine AKt.no (by assumption) ?_ | with_reducible refine AKt.node (fun hb => ?_) (fun hb => ?_) | with_reducible refine AKt.need ?_ (fun hb => ?_) | with_reducible refine AKt.leaf ?_ | ((with_reducible show _ = true); assumption))
      refine AKp.again _ hfr (by repeat (first | exact True.intro | refine ⟨⟨rfl, rfl⟩, ?_⟩)) (by repeat (first | exact True.intro | refine ⟨⟨rfl, rfl, rfl⟩, ?_⟩)) (hJ (k / 10) _ _ (by omega) ⟨k / 10, _, _, rfl, rfl, by omega, by rw [hd, dig_big hlt]; simp, rfl, rfl⟩)
    · have hlt : k < 10 := by simp only [hF, f_ltI, f_leI, f_eqI, f_eqS, f_eqB, f_not, f_andB, f_orB, f_lenS, f_lenD, f_hasS, f_atS, f_hasC, f_subS, f_hasCat, f_app, f_wrap, f_add, f_sub, f_mul, f_appD, f_fits, f_hasV, f_subV, decide_eq_true_eq, decide_eq_false_iff_not, beq_iff_eq, beq_eq_false_iff_ne, Bool.and_eq_true, Bool.and_eq_false_iff, Bool.not_eq_true, Bool.not_eq_false, Bool.not_eq_eq_eq_not, Bool.not_true, Bool.not_false] at hb1; omega
      obtain ⟨g1, g2⟩ := t_digit hF hkv hlt
      have hca : F .hasCat [UInt8.ofNat (48 + k)] s = true := t_hasCat hF (by simp; omega)
      have hap : F .app [UInt8.ofNat (48 + k)] s = UInt8.ofNat (48 + k) :: s := by rw [hF]; rfl
      rw [g2, hap]
      repeat' (first | with_reducible refine AKt.have ?_ | with_reducible refine AKt.tt ?_ | with_reducible refine AKt.ff ?_ | with_reducible refine AKt.yes (by assumption) ?_ | with_reducible refine AKt.no (by assumption) ?_ | with_reducible refine AKt.node (fun hb => ?_) (fun hb => ?_) | with_reducible refine AKt.need ?_ (fun hb => ?_) | with_reducible refine AKt.leaf ?_ | ((with_reducible show _ = true); assumption))
      refine AKp.doneE tabOK hfr (by rfl) ?_
      show _ = _
      simp only [tupAV]
      rw [hd, dig_small hlt]
      rfl
def φRefDigits (u : Int → List UInt8) : List AV → Option (Bool × AV)
  | [.d (.s (.int .i64 n))] => some (true, .d (.s (.str (u n))))
  | _ => none
theorem φRefDigits_ok : SpOK Tryd.prog 31 (φRefDigits (fun n => Lib.decDigits n.toNat)) := by
  intro xs b x h hb
  unfold φRefDigits at h
  split at h
  · simp only [Option.some.injEq, Prod.mk.injEq] at h
    obtain ⟨rfl, rfl⟩ := h
    exact RefDigitsI_spec _
  · cases h

theorem RefNumber_spec (w : List UInt8) (least most : Int) : ESpec Tryd.prog 43 [.d (.s (.str w)), .d (.s (.int .i64 least)), .d (.s (.int .i64 most))] (fun x => x = .tup [.d (.s (.int .i64 (numV w least most))), .d (.s (.bool (numB w least most)))]) := by
  obtain ⟨uRefDigits, huRefDigits⟩ : ∃ u : Int → List UInt8, u = fun n => Lib.decDigits n.toNat := ⟨_, rfl⟩
  have hG : TblOK Tryd.prog [(31, .p (φRefDigits uRefDigits))] := ⟨(by rw [huRefDigits]; exact φRefDigits_ok), trivial⟩
  obtain ⟨zv, hzv⟩ : ∃ z, z = numV w least most := ⟨_, rfl⟩
  obtain ⟨zb, hzb⟩ : ∃ z, z = numB w least most := ⟨_, rfl⟩
  have bad : ¬ (numForm w = true ∧ least ≤ (valN w : Int) ∧ (valN w : Int) ≤ most) → zv = 0 ∧ zb = false := fun h => by
    rw [hzv, hzb, numV, numB, numberF, if_neg h]; exact ⟨rfl, rfl⟩
  have good : numForm w = true → least ≤ (valN w : Int) → (valN w : Int) ≤ most → zv = (valN w : Int) ∧ zb = true := fun h1 h2 h3 => by
    rw [hzv, hzb, numV, numB, numberF, if_pos ⟨h1, h2, h3⟩]; exact ⟨rfl, rfl⟩
  rw [← hzv, ← hzb]
  refine ESpec.enter Tryd.func43 (by kernel_rfl) rfl (Nat.le_of_ble_eq_true rfl) fun hok cx hnt hfr => ?_
  obtain ⟨F, hF⟩ := real_ex
  refine AK.runT hF tabOK hmix hnt hfr false _ hG ?_
  conv => arg 4; cbv
  have hwl : w.length ≤ maxLen := hok.1
  have hm : maxLen = 9223372036854775807 := by decide
  repeat' (first | with_reducible refine AKt.have ?_ | with_reducible refine AKt.tt ?_ | with_reducible refine AKt.ff ?_ | with_reducible refine AKt.yes (by assumption) ?_ | with_reducible refine AKt.no (by assumption) ?_ | with_reducible refine AKt.node (fun hb => ?_) (fun hb => ?_) | with_reducible refine AKt.need ?_ (fun hb => ?_) | with_reducible refine AKt.leaf ?_ | ((with_reducible show _ = true); assumption))
  refine AKp.enterLoop 10 ?_
  conv => arg 7; cbv
  refine AKl.invT hF tabOK hmix hnt hfr false _ hG (fun n vs hs => ∃ (i : Nat) (iv nv : Int), i + n = w.length ∧ i ≤ 10 ∧ iv = i ∧ nv = (valN (w.take i) : Nat) ∧ (w.take i).all digB = true ∧ vs = [(9, .d (.s (.int .i64 iv))), (8, .d (.s (.int .i64 nv)))] ∧ hs = []) w.length ⟨0, _, 0, by omega, by omega, rfl, by simp [valN], by simp, rfl, rfl⟩ (by repeat (first | exact True.intro | refine ⟨⟨rfl, rfl⟩, ?_⟩)) (by repeat (first | exact True.intro | refine ⟨⟨rfl, rfl, rfl⟩, ?_⟩)) ?_
  rintro J n vs hs hJ ⟨i, iv, nv, hi, hi10, hiv, hnv, hall, rfl, rfl⟩
  have hvl := valN_lt i (by omega) hall
  have hp9 : 10 ^ i ≤ 10 ^ 10 := Nat.pow_le_pow_right (by decide) hi10
  have hu : uRefDigits nv = Lib.decDigits (valN (w.take i)) := by subst huRefDigits; show Lib.decDigits nv.toNat = _; rw [hnv]; rfl
  obtain ⟨D, hD⟩ : ∃ z, z = Lib.decDigits (valN (w.take i)) := ⟨_, rfl⟩
  rw [← hD] at hu
  conv => arg 4; cbv
  rw [hu]
  have fin : ∀ T : Tree, True := fun _ => trivial
  refine AKt.node (fun hb1 => ?_) (fun hb1 => ?_)
  · have hlt : i < w.length := by simp only [hF, f_ltI, f_leI, f_eqI, f_eqS, f_eqB, f_not, f_andB, f_orB, f_lenS, f_lenD, f_hasS, f_atS, f_hasC, f_subS, f_hasCat, f_app, f_wrap, f_add, f_sub, f_mul, f_appD, f_fits, f_hasV, f_subV, decide_eq_true_eq, decide_eq_false_iff_not, beq_iff_eq, beq_eq_false_iff_ne, Bool.and_eq_true, Bool.and_eq_false_iff, Bool.not_eq_true, Bool.not_eq_false, Bool.not_eq_eq_eq_not, Bool.not_true, Bool.not_false] at hb1; omega
    refine AKt.node (fun hb2 => ?_) (fun hb2 => ?_)
    · have hlt2 : i < 10 := by simp only [hF, f_ltI, f_leI, f_eqI, f_eqS, f_eqB, f_not, f_andB, f_orB, f_lenS, f_lenD, f_hasS, f_atS, f_hasC, f_subS, f_hasCat, f_app, f_wrap, f_add, f_sub, f_mul, f_appD, f_fits, f_hasV, f_subV, decide_eq_true_eq, decide_eq_false_iff_not, beq_iff_eq, beq_eq_false_iff_ne, Bool.and_eq_true, Bool.and_eq_false_iff, Bool.not_eq_true, Bool.not_eq_false, Bool.not_eq_eq_eq_not, Bool.not_true, Bool.not_false] at hb2; omega
      obtain ⟨c, hc⟩ : ∃ c, w[i]? = some c := ⟨_, List.getElem?_eq_getElem hlt⟩
      have hs := t_hasS hF hlt hiv
      have hno := all_false (p := digB) hc
      have hyes := all_take_succ (p := digB) hc hall
      have hvt := valN_take hc
      have hdb : digB c = (decide (48 ≤ (c.toNat : Int)) && decide ((c.toNat : Int) ≤ 57)) := rfl
      rw [t_atS hF hc hiv]
      have bad2 : digB c = false → zv = 0 ∧ zb = false := fun h => bad (by
        rintro ⟨h1, _⟩
        unfold numForm at h1
        rw [hno h] at h1
        simp at h1)
      have good2 : digB c = true → F .wrap .i64 (F .sub (F .wrap .i64 (F .add (F .wrap .i64 (F .mul 10 nv)) (F .wrap .i64 (c.toNat : Int)))) 48) = ((valN (w.take (i + 1)) : Nat) : Int) := fun h => by
        have := digB_le h
        rw [hF, hvt, hnv]
        show IntKind.i64.wrap (IntKind.i64.wrap (IntKind.i64.wrap (10 * ((valN (w.take i) : Nat) : Int)) + IntKind.i64.wrap (c.toNat : Int)) - 48) = _
        rw [w_i64 (n := 10 * ((valN (w.take i) : Nat) : Int)) (by omega) (by omega), w_i64 (n := (c.toNat : Int)) (by omega) (by omega), w_i64 (n := 10 * ((valN (w.take i) : Nat) : Int) + (c.toNat : Int)) (by omega) (by omega), w_i64 (by omega) (by omega)]
        omega
      repeat' (first | with_reducible refine AKt.have ?_ | with_reducible refine AKt.tt ?_ | with_reducible refine AKt.ff ?_ | with_reducible refine AKt.yes (by assumption) ?_ | with_reducible refine AKt.no (by assumption) ?_ | with_reducible refine AKt.node (fun hb => ?_) (fun hb => ?_) | with_reducible refine AKt.need ?_ (fun hb => ?_) | with_reducible refine AKt.leaf ?_ | ((with_reducible show _ = true); assumption))
      all_goals first
        | (have hd : digB c = true := by
             rw [hdb]
             clear hJ hno hyes bad good bad2 good2
             simp only [hF, f_ltI, f_leI, f_eqI, f_eqS, f_eqB, f_not, f_andB, f_orB, f_lenS, f_lenD, f_hasS, f_atS, f_hasC, f_subS, f_hasCat, f_app, f_wrap, f_add, f_sub, f_mul, f_appD, f_fits, f_hasV, f_subV, decide_eq_true_eq, decide_eq_false_iff_not, beq_iff_eq, beq_eq_false_iff_ne, Bool.and_eq_true, Bool.and_eq_false_iff, Bool.not_eq_true, Bool.not_eq_false, Bool.not_eq_eq_eq_not, Bool.not_true, Bool.not_false] at *
             grind
           rw [good2 hd]
           exact AKp.again _ hfr (by repeat (first | exact True.intro | refine ⟨⟨rfl, rfl⟩, ?_⟩)) (by repeat (first | exact True.intro | refine ⟨⟨rfl, rfl, rfl⟩, ?_⟩)) (hJ (n - 1) _ _ (by omega) ⟨i + 1, _, _, by omega, by omega, inc_i hF hiv (by omega), rfl, hyes hd, rfl, rfl⟩))
        | (refine AKp.doneE tabOK hfr (by rfl) ?_
           show _ = _
           simp only [tupAV]
           have hd : digB c = false := by
             rw [hdb]
             clear hJ hno hyes bad good bad2 good2
             simp only [hF, f_ltI, f_leI, f_eqI, f_eqS, f_eqB, f_not, f_andB, f_orB, f_lenS, f_lenD, f_hasS, f_atS, f_hasC, f_subS, f_hasCat, f_app, f_wrap, f_add, f_sub, f_mul, f_appD, f_fits, f_hasV, f_subV, decide_eq_true_eq, decide_eq_false_iff_not, beq_iff_eq, beq_eq_false_iff_ne, Bool.and_eq_true, Bool.and_eq_false_iff, Bool.not_eq_true, Bool.not_eq_false, Bool.not_eq_eq_eq_not, Bool.not_true, Bool.not_false] at *
             grind
           obtain ⟨g1, g2⟩ := bad2 hd
           rw [g1, g2])
    · have hge : ¬ i < 10 := by simp only [hF, f_ltI, f_leI, f_eqI, f_eqS, f_eqB, f_not, f_andB, f_orB, f_lenS, f_lenD, f_hasS, f_atS, f_hasC, f_subS, f_hasCat, f_app, f_wrap, f_add, f_sub, f_mul, f_appD, f_fits, f_hasV, f_subV, decide_eq_true_eq, decide_eq_false_iff_not, beq_iff_eq, beq_eq_false_iff_ne, Bool.and_eq_true, Bool.and_eq_false_iff, Bool.not_eq_true, Bool.not_eq_false, Bool.not_eq_eq_eq_not, Bool.not_true, Bool.not_false] at hb2; omega
      have hl9 : F .ltI 9 (F .lenS w) = true := by rw [hF, f_ltI, f_lenS]; exact decide_eq_true (by omega)
      have g := bad (by
        rintro ⟨h1, _⟩
        unfold numForm at h1
        rw [decide_eq_false (show ¬ w.length ≤ 9 by omega)] at h1
        simp at h1)
      rw [hl9]
      repeat' (first | with_reducible refine AKt.have ?_ | with_reducible refine AKt.tt ?_ | with_reducible refine AKt.ff ?_ | with_reducible refine AKt.yes (by assumption) ?_ | with_reducible refine AKt.no (by assumption) ?_ | with_reducible refine AKt.node (fun hb => ?_) (fun hb => ?_) | with_reducible refine AKt.need ?_ (fun hb => ?_) | with_reducible refine AKt.leaf ?_ | ((with_reducible show _ = true); assumption))
      refine AKp.doneE tabOK hfr (by rfl) ?_
      show _ = _
      simp only [tupAV]
      rw [g.1, g.2]
  · have hge : ¬ i < w.length := by simp only [hF, f_ltI, f_leI, f_eqI, f_eqS, f_eqB, f_not, f_andB, f_orB, f_lenS, f_lenD, f_hasS, f_atS, f_hasC, f_subS, f_hasCat, f_app, f_wrap, f_add, f_sub, f_mul, f_appD, f_fits, f_hasV, f_subV, decide_eq_true_eq, decide_eq_false_iff_not, beq_iff_eq, beq_eq_false_iff_ne, Bool.and_eq_true, Bool.and_eq_false_iff, Bool.not_eq_true, Bool.not_eq_false, Bool.not_eq_eq_eq_not, Bool.not_true, Bool.not_false] at hb1; omega
    rw [List.take_of_length_le (by omega)] at hnv hall hD
    have hf : w.length ≤ 9 → numForm w = decide (D = w) := fun h => by rw [num_dig hall h, hD]
    repeat' (first | with_reducible refine AKt.have ?_ | with_reducible refine AKt.tt ?_ | with_reducible refine AKt.ff ?_ | with_reducible refine AKt.yes (by assumption) ?_ | with_reducible refine AKt.no (by assumption) ?_ | with_reducible refine AKt.node (fun hb => ?_) (fun hb => ?_) | with_reducible refine AKt.need ?_ (fun hb => ?_) | with_reducible refine AKt.leaf ?_ | ((with_reducible show _ = true); assumption))
    all_goals first
      | (refine AKp.doneE tabOK hfr (by rfl) ?_
         show _ = _
         simp only [tupAV]
         have g : ¬ (numForm w = true ∧ least ≤ (valN w : Int) ∧ (valN w : Int) ≤ most) := by
           rintro ⟨h1, h2, h3⟩
           have h9 : w.length ≤ 9 := by
             unfold numForm at h1
             simp only [Bool.and_eq_true, decide_eq_true_eq] at h1
             exact h1.1.1.2
           rw [hf h9] at h1
           have h1 := of_decide_eq_true h1
           clear hJ bad good hf hall
           simp only [hF, f_ltI, f_leI, f_eqI, f_eqS, f_eqB, f_not, f_andB, f_orB, f_lenS, f_lenD, f_hasS, f_atS, f_hasC, f_subS, f_hasCat, f_app, f_wrap, f_add, f_sub, f_mul, f_appD, f_fits, f_hasV, f_subV, decide_eq_true_eq, decide_eq_false_iff_not, beq_iff_eq, beq_eq_false_iff_ne, Bool.and_eq_true, Bool.and_eq_false_iff, Bool.not_eq_true, Bool.not_eq_false, Bool.not_eq_eq_eq_not, Bool.not_true, Bool.not_false] at *
           first
             | omega
             | exact absurd h1 (by assumption)
             | grind
         obtain ⟨g1, g2⟩ := bad g
         rw [g1, g2]
         done)
      | (refine AKp.doneE tabOK hfr (by rfl) ?_
         show _ = _
         simp only [tupAV]
         have g := good (by
           have h9 : w.length ≤ 9 := by
             have := ‹F .ltI 9 (F .lenS w) = false›
             simp only [hF, f_ltI, f_leI, f_eqI, f_eqS, f_eqB, f_not, f_andB, f_orB, f_lenS, f_lenD, f_hasS, f_atS, f_hasC, f_subS, f_hasCat, f_app, f_wrap, f_add, f_sub, f_mul, f_appD, f_fits, f_hasV, f_subV, decide_eq_true_eq, decide_eq_false_iff_not, beq_iff_eq, beq_eq_false_iff_ne, Bool.and_eq_true, Bool.and_eq_false_iff, Bool.not_eq_true, Bool.not_eq_false, Bool.not_eq_eq_eq_not, Bool.not_true, Bool.not_false] at this
             omega
           rw [hf h9]
           clear hJ bad good hf hall
           simp only [hF, f_ltI, f_leI, f_eqI, f_eqS, f_eqB, f_not, f_andB, f_orB, f_lenS, f_lenD, f_hasS, f_atS, f_hasC, f_subS, f_hasCat, f_app, f_wrap, f_add, f_sub, f_mul, f_appD, f_fits, f_hasV, f_subV, decide_eq_true_eq, decide_eq_false_iff_not, beq_iff_eq, beq_eq_false_iff_ne, Bool.and_eq_true, Bool.and_eq_false_iff, Bool.not_eq_true, Bool.not_eq_false, Bool.not_eq_eq_eq_not, Bool.not_true, Bool.not_false] at *
           grind) (by clear hJ bad good hf hall; simp only [hF, f_ltI, f_leI, f_eqI, f_eqS, f_eqB, f_not, f_andB, f_orB, f_lenS, f_lenD, f_hasS, f_atS, f_hasC, f_subS, f_hasCat, f_app, f_wrap, f_add, f_sub, f_mul, f_appD, f_fits, f_hasV, f_subV, decide_eq_true_eq, decide_eq_false_iff_not, beq_iff_eq, beq_eq_false_iff_ne, Bool.and_eq_true, Bool.and_eq_false_iff, Bool.not_eq_true, Bool.not_eq_false, Bool.not_eq_eq_eq_not, Bool.not_true, Bool.not_false] at *; omega) (by clear hJ bad good hf hall; simp only [hF, f_ltI, f_leI, f_eqI, f_eqS, f_eqB, f_not, f_andB, f_orB, f_lenS, f_lenD, f_hasS, f_atS, f_hasC, f_subS, f_hasCat, f_app, f_wrap, f_add, f_sub, f_mul, f_appD, f_fits, f_hasV, f_subV, decide_eq_true_eq, decide_eq_false_iff_not, beq_iff_eq, beq_eq_false_iff_ne, Bool.and_eq_true, Bool.and_eq_false_iff, Bool.not_eq_true, Bool.not_eq_false, Bool.not_eq_eq_eq_not, Bool.not_true, Bool.not_false] at *; omega)
         rw [g.1, g.2, hnv])
def φRefNumber (u : List UInt8 → Int → Int → Int) (v : List UInt8 → Int → Int → Bool) : List AV → Option (Bool × AV)
  | [.d (.s (.str w)), .d (.s (.int .i64 a)), .d (.s (.int .i64 b))] => some (true, .tup [.d (.s (.int .i64 (u w a b))), .d (.s (.bool (v w a b)))])
  | _ => none
theorem φRefNumber_ok : SpOK Tryd.prog 43 (φRefNumber (numV) (numB)) := by
  intro xs b x h hb
  unfold φRefNumber at h
  split at h
  · simp only [Option.some.injEq, Prod.mk.injEq] at h
    obtain ⟨rfl, rfl⟩ := h
    exact RefNumber_spec _ _ _
  · cases h
theorem hexOK_C : ∀ d : Nat, d < 16 → hexOK (hexC d) = true ∧ hexV (hexC d) = d := by decide
theorem hexN_fold : ∀ (k n : Nat), n < 16 ^ k → (hexN k n).all hexOK = true ∧ foldH (hexN k n) = n
  | 0, n, h => by
    have : n = 0 := by simpa using h
    subst this
    exact ⟨rfl, rfl⟩
  | k + 1, n, h => by
    have h : n < 16 ^ k * 16 := h
    obtain ⟨g1, g2⟩ := hexN_fold k (n / 16) (by omega)
    obtain ⟨c1, c2⟩ := hexOK_C (n % 16) (Nat.mod_lt _ (by decide))
    rw [hexN]
    refine ⟨by rw [List.all_append, g1]; simp [c1], ?_⟩
    have : foldH (hexN k (n / 16) ++ [hexC (n % 16)]) = 16 * foldH (hexN k (n / 16)) + hexV (hexC (n % 16)) := by simp [foldH, List.foldl_append]
    rw [this, g2, c2]
    omega
theorem unhex_hex {h : Int} (h0 : 0 ≤ h) (h1 : h ≤ 18446744073709551615) : unhexB (hexN 16 h.toNat) = true ∧ unhexV (hexN 16 h.toNat) = h := by
  obtain ⟨g1, g2⟩ := hexN_fold 16 h.toNat (by omega)
  have hb : unhexB (hexN 16 h.toNat) = true := by rw [unhexB, g1, hexN_len]; rfl
  refine ⟨hb, ?_⟩
  rw [unhexV, if_pos hb, g2]
  omega

def joinP (l : List Dat) (s : List UInt8) : Bool := isStrs l && (decide (l.length ≤ 140737488355328) && decide ((Lib.join (unStr l) s).length ≤ 140737488355328))
theorem StrJoinD_spec (l : List Dat) (s : List UInt8) (h : joinP l s = true) : ESpec Tryd.prog 45 [.d (.view 1 l), .d (.s (.str s))] (fun x => x = .d (.s (.str (Lib.join (unStr l) s)))) := by
  simp only [joinP, Bool.and_eq_true, decide_eq_true_eq] at h
  have := StrJoin_spec (unStr l) s (by unfold unStr; rw [List.length_map]; exact h.2.1) h.2.2
  rwa [strDs_unStr h.1] at this
def φSJoin (p : List Dat → List UInt8 → Bool) (u : List Dat → List UInt8 → List UInt8) : List AV → Option (Bool × AV)
  | [.d (.view 1 l), .d (.s (.str s))] => some (p l s, .d (.s (.str (u l s))))
  | _ => none
theorem φSJoin_ok : SpOK Tryd.prog 45 (φSJoin (joinP) (fun l s => Lib.join (unStr l) s)) := by
  intro xs b x h hb
  unfold φSJoin at h
  split at h
  · simp only [Option.some.injEq, Prod.mk.injEq] at h
    obtain ⟨rfl, rfl⟩ := h
    exact StrJoinD_spec _ _ hb
  · cases h
theorem join32_len {n : Nat} : ∀ {ws : List (List UInt8)}, (∀ w, w ∈ ws → w.length ≤ n) → (Lib.join ws [32]).length ≤ (n + 1) * ws.length
  | [], _ => by simp [Lib.join_nil]
  | [a], h => by
    have := h a (by simp)
    rw [Lib.join_one]; simp; omega
  | a :: b :: r, h => by
    have h1 := h a (by simp)
    have h2 := join32_len (ws := b :: r) fun w hw => h w (List.mem_cons_of_mem _ hw)
    rw [join_cons2]
    simp only [List.length_append, List.length_cons] at h2 ⊢
    rw [Nat.mul_add]
    omega
/-- Few short words are joined. -/
theorem joinP_of {ws : List (List UInt8)} {n : Nat} (hl : ws.length ≤ 1000) (hw : ∀ w, w ∈ ws → w.length ≤ n) (hn : n ≤ 1000000) : joinP (strDs ws) [32] = true := by
  have h3 := join32_len hw
  have h4 : (n + 1) * ws.length ≤ 1000001 * 1000 := Nat.mul_le_mul (by omega) hl
  unfold joinP
  rw [isStrs_strDs, unStr_strDs, strDs_length, decide_eq_true (by omega), decide_eq_true (by omega)]
  rfl
end Go.Proofs.YtmhkmoeailamlaaDoor

/- strings.Cut, TrimPrefix, ReplaceAll. -/
namespace Go.Proofs.YtmhkmoeailamlaaDoor
open Go Go.Proofs Go.Ua Go.Extern
set_option linter.unusedVariables false
set_option linter.unusedSimpArgs false

theorem ESpec.grownV {P : Program} [Globs P] {f : FuncId} {args : List AV} {x : AV} {v : Value} (he : Enters P f) (hx : ∀ R ι, RepV R ι x v)
    (H : ∀ (R : Rd) (ι : Io) (vs : List Value) (w : World), (∀ b o v, R b o v → w.cell? ⟨b, o, none⟩ = some v) → (∀ b p, Globs.G P b p → ∃ cs t fz, p cs ∧ w.heap[b]? = some (.cells cs.toArray t fz)) → args.length = vs.length → (∀ (i : Nat) (x : AV) (v : Value), args[i]? = some x → vs[i]? = some v → RepV R ι x v) →
      Calls P f vs.toArray w (fun e w' => e = .returned v ∧ RowKit.Below w.heap.size w w')) : ESpec P f args (fun y => y = x) := by
  refine ⟨he, fun X L w ι vs h1 hg h2 h3 => (H _ ι vs w (fun b o v h => h.2.1) (fun b p h => (hg b p h).2) h2 h3).mono ?_⟩
  rintro e w' ⟨rfl, hb⟩
  exact ⟨_, _, [], 0, ι, rfl, ⟨rfl, rfl, rfl⟩, hx _ _, h1.grown hb⟩
theorem below_drew (w : World) (n : Nat) : RowKit.Below w.heap.size w (w.drewN n) := ⟨rfl, rfl, rfl, Nat.le_refl _, fun _ _ => rfl⟩
theorem SCut_spec (s sep : List UInt8) (hs : s.length < 4294967281) : ESpec Tryd.prog 36 [.d (.s (.str s)), .d (.s (.str sep))]
    (fun x => x = .tup [.d (.s (.str (Lib.cut s sep).1)), .d (.s (.str (Lib.cut s sep).2.1)), .d (.s (.bool (Lib.cut s sep).2.2))]) := by
  have hm : maxLen = 9223372036854775807 := by decide
  have l1 : (Lib.cut s sep).1.length ≤ maxLen := by
    unfold Lib.cut
    split
    · simp only [List.length_take]; omega
    · show s.length ≤ _; omega
  have l2 : (Lib.cut s sep).2.1.length ≤ maxLen := by
    unfold Lib.cut
    split
    · simp only [List.length_drop]; omega
    · exact Nat.zero_le _
  refine ESpec.grownV (v := .tuple #[.string ⟨(Lib.cut s sep).1.toArray⟩, .string ⟨(Lib.cut s sep).2.1.toArray⟩, .bool (Lib.cut s sep).2.2]) (enters_of Tryd.func36 (by kernel_rfl) rfl) (fun R ι => ?_) fun R ι vs w hR hG hl hr => ?_
  · refine .tup _ [.string ⟨(Lib.cut s sep).1.toArray⟩, .string ⟨(Lib.cut s sep).2.1.toArray⟩, .bool (Lib.cut s sep).2.2] rfl fun i c v hc hv => ?_
    match i, hc, hv with
    | 0, hc, hv => cases hc; cases hv; exact .d _ _ (.s (.str _) l1)
    | 1, hc, hv => cases hc; cases hv; exact .d _ _ (.s (.str _) l2)
    | 2, hc, hv => cases hc; cases hv; exact .d _ _ (.s (.bool _) trivial)
    | i + 3, hc, hv => cases hc
  obtain ⟨v0, v1, rfl⟩ : ∃ v0 v1, vs = [v0, v1] := by
    match vs, hl with
    | [v0, v1], _ => exact ⟨v0, v1, rfl⟩
  obtain rfl := rep_s (hr 0 _ _ rfl rfl)
  obtain rfl := rep_s (hr 1 _ _ rfl rfl)
  obtain ⟨cs, t, fz, ⟨m, hm0⟩, hb⟩ := hG 0 _ G_maxlen
  have hcell : w.cell? ⟨0, 0, none⟩ = some (.int .i64 m) := by
    unfold World.cell?
    rw [hb]
    simpa using hm0
  refine (Tryd.strings_Cut ⟨s.toArray⟩ ⟨sep.toArray⟩ m w (by rw [str_size]; exact hs) hcell).mono ?_
  rintro e w' ⟨rfl, n, rfl⟩
  exact ⟨rfl, below_drew _ _⟩
theorem STrimPrefix_spec (s p : List UInt8) (hs : s.length < 4294967281) : ESpec Tryd.prog 37 [.d (.s (.str s)), .d (.s (.str p))] (fun x => x = .d (.s (.str (Lib.trimPrefix s p)))) := by
  have hm : maxLen = 9223372036854775807 := by decide
  have l1 : (Lib.trimPrefix s p).length ≤ maxLen := by
    unfold Lib.trimPrefix
    split
    · simp only [List.length_drop]; omega
    · omega
  refine ESpec.grown (enters_of Tryd.func37 (by kernel_rfl) rfl) l1 fun R ι vs w hR hG hl hr => ?_
  obtain ⟨v0, v1, rfl⟩ : ∃ v0 v1, vs = [v0, v1] := by
    match vs, hl with
    | [v0, v1], _ => exact ⟨v0, v1, rfl⟩
  obtain rfl := rep_s (hr 0 _ _ rfl rfl)
  obtain rfl := rep_s (hr 1 _ _ rfl rfl)
  refine (Tryd.strings_TrimPrefix ⟨s.toArray⟩ ⟨p.toArray⟩ w).mono ?_
  rintro e w' ⟨rfl, rfl⟩
  exact ⟨by simp [Sc.val], RowKit.Below.refl _ _⟩
theorem SReplaceAll_spec (s old new : List UInt8) (hs : s.length < 4294967281) (h1 : 1 ≤ old.length) (hn : new.length ≤ 1) (hl2 : (Lib.replaceAll s old new).length ≤ maxLen) :
    ESpec Tryd.prog 38 [.d (.s (.str s)), .d (.s (.str old)), .d (.s (.str new))] (fun x => x = .d (.s (.str (Lib.replaceAll s old new)))) := by
  refine ESpec.grown (enters_of Tryd.func38 (by kernel_rfl) rfl) hl2 fun R ι vs w hR hG hl hr => ?_
  obtain ⟨v0, v1, v2, rfl⟩ : ∃ v0 v1 v2, vs = [v0, v1, v2] := by
    match vs, hl with
    | [v0, v1, v2], _ => exact ⟨v0, v1, v2, rfl⟩
  obtain rfl := rep_s (hr 0 _ _ rfl rfl)
  obtain rfl := rep_s (hr 1 _ _ rfl rfl)
  obtain rfl := rep_s (hr 2 _ _ rfl rfl)
  obtain ⟨cs, t, fz, ⟨m, hm0⟩, hb⟩ := hG 0 _ G_maxlen
  have hcell : w.cell? ⟨0, 0, none⟩ = some (.int .i64 m) := by
    unfold World.cell?
    rw [hb]
    simpa using hm0
  refine (Tryd.strings_ReplaceAll ⟨s.toArray⟩ ⟨old.toArray⟩ ⟨new.toArray⟩ m w (by rw [str_size]; exact hs) hcell (by rw [str_size]; exact h1) ?_).mono ?_
  · rw [str_size, str_size]
    have hc : Lib.countB ⟨s.toArray⟩ ⟨old.toArray⟩ ≤ s.length + 1 := Lib.count_le s old
    have : Lib.countB ⟨s.toArray⟩ ⟨old.toArray⟩ * new.length ≤ (s.length + 1) * 1 := Nat.mul_le_mul hc hn
    omega
  · rintro e w' ⟨rfl, hb⟩
    exact ⟨by simp [Sc.val], hb⟩
end Go.Proofs.YtmhkmoeailamlaaDoor

/- A cursor through the words of a line. -/
namespace Go.Proofs.YtmhkmoeailamlaaDoor
open Go Go.Proofs Go.Ua Go.Extern
set_option linter.unusedVariables false
set_option linter.unusedSimpArgs false

def okS (es : List Dat) : Bool := isStrs es && decide (0 < es.length)
def hdS (es : List Dat) : List UInt8 := (unStr es).getD 0 []
def tlS (es : List Dat) : List Dat := es.drop 1
def failV (e n : Int) : Int := if e = 0 then n else e
def curB (es : List Dat) (e : Int) : List (Nat × Blk) := [(0, .cs 46 [.d (.view 1 es), .d (.s (.int .i64 e))])]

theorem fail_spec (es : List Dat) (e n : Int) : ASpec Tryd.prog 21 [.ptr 0 0 0 2, .d (.s (.int .i64 n))] (curB es e) 1 (fun y h1 fr1 => y = .tup [] ∧ h1 = curB es (failV e n) ∧ fr1 = 1) := by
  unfold curB
  refine ASpec.enterK Tryd.func21 (by kernel_rfl) rfl (Nat.le_of_ble_eq_true rfl) fun hok cx hnt hfr => ?_
  obtain ⟨F, hF⟩ := real_ex
  refine AK.runTn hF tabOK hmix hnt [] false [] trivial (Nat.le_of_eq hfr) ?_
  conv => arg 4; cbv
  repeat' (first | with_reducible refine AKt.have ?_ | with_reducible refine AKt.tt ?_ | with_reducible refine AKt.ff ?_ | with_reducible refine AKt.yes (by assumption) ?_ | with_reducible refine AKt.no (by assumption) ?_ | with_reducible refine AKt.node (fun hb => ?_) (fun hb => ?_) | with_reducible refine AKt.need ?_ (fun hb => ?_) | with_reducible refine AKt.leaf ?_ | ((with_reducible show _ = true); assumption))
  all_goals
    first | refine AKp.doneM tabOK hfr (by rfl) (by rfl) ?_ ?_ | refine AKp.endM tabOK hfr (by rfl) (by rfl) ?_ ?_
    all_goals show _ = _
    · rfl
    · simp only [hF, f_ltI, f_leI, f_eqI, f_eqS, f_eqB, f_not, f_andB, f_orB, f_lenS, f_lenD, f_hasS, f_atS, f_hasC, f_subS, f_hasCat, f_app, f_wrap, f_add, f_sub, f_mul, f_appD, f_fits, f_hasV, f_subV, decide_eq_true_eq, decide_eq_false_iff_not, beq_iff_eq, beq_eq_false_iff_ne, Bool.and_eq_true, Bool.and_eq_false_iff, Bool.not_eq_true, Bool.not_eq_false, Bool.not_eq_eq_eq_not, Bool.not_true, Bool.not_false] at *
      simp [failV, *]
def φFail (u : Int → Int → Int) : Nat → List AV → List (Nat × Blk) → Option (Bool × AV × List (Nat × Blk) × Nat)
  | 1, [.ptr 0 0 0 2, .d (.s (.int .i64 n))], [(0, .cs 46 [.d (.view 1 es), .d (.s (.int .i64 e))])] => some (true, .tup [], [(0, .cs 46 [.d (.view 1 es), .d (.s (.int .i64 (u e n)))])], 1)
  | _, _, _ => none
theorem φFail_ok : MSpOK Tryd.prog 21 (φFail (failV)) := by
  intro fr xs h b x h1 fr1 h hb
  unfold φFail at h
  split at h
  · simp only [Option.some.injEq, Prod.mk.injEq] at h
    obtain ⟨rfl, rfl, rfl, rfl⟩ := h
    exact fail_spec _ _ _
  · cases h

theorem next_spec (es : List Dat) (e : Int) (h : okS es = true) : ASpec Tryd.prog 40 [.ptr 0 0 0 2] (curB es e) 1 (fun y h1 fr1 => y = .d (.s (.str (hdS es))) ∧ h1 = curB (tlS es) e ∧ fr1 = 1) := by
  unfold curB
  simp only [okS, Bool.and_eq_true, decide_eq_true_eq] at h
  have hsd := strDs_unStr h.1
  have hl : 0 < (unStr es).length := by rw [← strDs_length, hsd]; exact h.2
  refine ASpec.enterK Tryd.func40 (by kernel_rfl) rfl (Nat.le_of_ble_eq_true rfl) fun hok cx hnt hfr => ?_
  obtain ⟨F, hF⟩ := real_ex
  refine AK.runTn hF tabOK hmix hnt [] false [] trivial (Nat.le_of_eq hfr) ?_
  conv => arg 4; cbv
  have k0 : F .hasD es 0 [.str] = true := by rw [← hsd]; exact t_hasG hF hl
  have s0 : F .strA es 0 0 = hdS es := by rw [← hsd, hdS, unStr_strDs]; exact t_strG hF _ 0
  have k1 : F .hasV es 1 (F .lenD es) = true := t_hasV hF (i := 1) (j := es.length) rfl (by rw [hF]; rfl) (by omega) (Nat.le_refl _)
  have s1 : F .subV es 1 (F .lenD es) = tlS es := by have := t_subV hF (s := es) (i := 1) (j := es.length) (iv := 1) (jv := F .lenD es) rfl (by rw [hF]; rfl); rw [this, List.take_length]; rfl
  rw [s0, s1]
  repeat' (first | with_reducible refine AKt.have ?_ | with_reducible refine AKt.tt ?_ | with_reducible refine AKt.ff ?_ | with_reducible refine AKt.yes (by assumption) ?_ | with_reducible refine AKt.no (by assumption) ?_ | with_reducible refine AKt.node (fun hb => ?_) (fun hb => ?_) | with_reducible refine AKt.need ?_ (fun hb => ?_) | with_reducible refine AKt.leaf ?_ | ((with_reducible show _ = true); assumption))
  first | refine AKp.doneM tabOK hfr (by rfl) (by rfl) ?_ ?_ | refine AKp.endM tabOK hfr (by rfl) (by rfl) ?_ ?_
  all_goals show _ = _
  · rfl
  · rfl
def φNext (p : List Dat → Bool) (u : List Dat → List UInt8) (v : List Dat → List Dat) : Nat → List AV → List (Nat × Blk) → Option (Bool × AV × List (Nat × Blk) × Nat)
  | 1, [.ptr 0 0 0 2], [(0, .cs 46 [.d (.view 1 es), .d (.s (.int .i64 e))])] => some (p es, .d (.s (.str (u es))), [(0, .cs 46 [.d (.view 1 (v es)), .d (.s (.int .i64 e))])], 1)
  | _, _, _ => none
theorem φNext_ok : MSpOK Tryd.prog 40 (φNext (okS) (hdS) (tlS)) := by
  intro fr xs h b x h1 fr1 h hb
  unfold φNext at h
  split at h
  · simp only [Option.some.injEq, Prod.mk.injEq] at h
    obtain ⟨rfl, rfl, rfl, rfl⟩ := h
    exact next_spec _ _ hb
  · cases h

def numE (es : List Dat) (e a b : Int) : Int := if numB (hdS es) a b = true then e else failV e 8
theorem number_spec (es : List Dat) (e a b : Int) (h : okS es = true) : ASpec Tryd.prog 18 [.ptr 0 0 0 2, .d (.s (.int .i64 a)), .d (.s (.int .i64 b))] (curB es e) 1 (fun y h1 fr1 => y = .d (.s (.int .i64 (numV (hdS es) a b))) ∧ h1 = curB (tlS es) (numE es e a b) ∧ fr1 = 1) := by
  obtain ⟨uFail, huFail⟩ : ∃ u : Int → Int → Int, u = failV := ⟨_, rfl⟩
  obtain ⟨uNext, huNext⟩ : ∃ u : List Dat → Bool, u = okS := ⟨_, rfl⟩
  obtain ⟨uNext1, huNext1⟩ : ∃ u : List Dat → List UInt8, u = hdS := ⟨_, rfl⟩
  obtain ⟨uNext2, huNext2⟩ : ∃ u : List Dat → List Dat, u = tlS := ⟨_, rfl⟩
  obtain ⟨uNumber, huNumber⟩ : ∃ u : List UInt8 → Int → Int → Int, u = numV := ⟨_, rfl⟩
  obtain ⟨uNumber1, huNumber1⟩ : ∃ u : List UInt8 → Int → Int → Bool, u = numB := ⟨_, rfl⟩
  have hG : TblOK Tryd.prog [(21, .m (φFail uFail)), (40, .m (φNext uNext uNext1 uNext2)), (39, .p (φNumber uNumber uNumber1))] := ⟨(by rw [huFail]; exact φFail_ok), (by rw [huNext, huNext1, huNext2]; exact φNext_ok), (by rw [huNumber, huNumber1]; exact φNumber_ok), trivial⟩
  unfold curB
  have q : uNext es = true := by subst huFail huNext huNext1 huNext2 huNumber huNumber1; exact h
  refine ASpec.enterK Tryd.func18 (by kernel_rfl) rfl (Nat.le_of_ble_eq_true rfl) fun hok cx hnt hfr => ?_
  obtain ⟨F, hF⟩ := real_ex
  refine AK.runTn hF tabOK hmix hnt [] false _ hG (Nat.le_of_eq hfr) ?_
  conv => arg 4; cbv
  repeat' (first | with_reducible refine AKt.have ?_ | with_reducible refine AKt.tt ?_ | with_reducible refine AKt.ff ?_ | with_reducible refine AKt.yes (by assumption) ?_ | with_reducible refine AKt.no (by assumption) ?_ | with_reducible refine AKt.node (fun hb => ?_) (fun hb => ?_) | with_reducible refine AKt.need ?_ (fun hb => ?_) | with_reducible refine AKt.leaf ?_ | ((with_reducible show _ = true); assumption))
  all_goals
    first | refine AKp.doneM tabOK hfr (by rfl) (by rfl) ?_ ?_ | refine AKp.endM tabOK hfr (by rfl) (by rfl) ?_ ?_
    all_goals show _ = _
    · subst huFail huNext huNext1 huNext2 huNumber huNumber1
      rfl
    · subst huFail huNext huNext1 huNext2 huNumber huNumber1
      simp only [hF, f_ltI, f_leI, f_eqI, f_eqS, f_eqB, f_not, f_andB, f_orB, f_lenS, f_lenD, f_hasS, f_atS, f_hasC, f_subS, f_hasCat, f_app, f_wrap, f_add, f_sub, f_mul, f_appD, f_fits, f_hasV, f_subV, decide_eq_true_eq, decide_eq_false_iff_not, beq_iff_eq, beq_eq_false_iff_ne, Bool.and_eq_true, Bool.and_eq_false_iff, Bool.not_eq_true, Bool.not_eq_false, Bool.not_eq_eq_eq_not, Bool.not_true, Bool.not_false] at *
      simp [numE, *]
def φCNumber (p : List Dat → Bool) (u : List Dat → Int → Int → Int) (v : List Dat → List Dat) (f : List Dat → Int → Int → Int → Int) : Nat → List AV → List (Nat × Blk) → Option (Bool × AV × List (Nat × Blk) × Nat)
  | 1, [.ptr 0 0 0 2, .d (.s (.int .i64 a)), .d (.s (.int .i64 b))], [(0, .cs 46 [.d (.view 1 es), .d (.s (.int .i64 e))])] => some (p es, .d (.s (.int .i64 (u es a b))), [(0, .cs 46 [.d (.view 1 (v es)), .d (.s (.int .i64 (f es e a b)))])], 1)
  | _, _, _ => none
theorem φCNumber_ok : MSpOK Tryd.prog 18 (φCNumber (okS) (fun es a b => numV (hdS es) a b) (tlS) (numE)) := by
  intro fr xs h b x h1 fr1 h hb
  unfold φCNumber at h
  split at h
  · simp only [Option.some.injEq, Prod.mk.injEq] at h
    obtain ⟨rfl, rfl, rfl, rfl⟩ := h
    exact number_spec _ _ _ _ hb
  · cases h

def wrdB (es : List Dat) (n : Bool) : Bool := n && decide (hdS es = [45])
def wrdV (es : List Dat) (n : Bool) : List UInt8 := if wrdB es n = true then [] else hdS es
def wrdE (es : List Dat) (e : Int) (n : Bool) : Int := if (wrdB es n || wordF (hdS es)) = true then e else failV e 4
theorem word_spec (es : List Dat) (e : Int) (n : Bool) (h : okS es = true) : ASpec Tryd.prog 19 [.ptr 0 0 0 2, .d (.s (.bool n))] (curB es e) 1 (fun y h1 fr1 => y = .d (.s (.str (wrdV es n))) ∧ h1 = curB (tlS es) (wrdE es e n) ∧ fr1 = 1) := by
  obtain ⟨uFail, huFail⟩ : ∃ u : Int → Int → Int, u = failV := ⟨_, rfl⟩
  obtain ⟨uNext, huNext⟩ : ∃ u : List Dat → Bool, u = okS := ⟨_, rfl⟩
  obtain ⟨uNext1, huNext1⟩ : ∃ u : List Dat → List UInt8, u = hdS := ⟨_, rfl⟩
  obtain ⟨uNext2, huNext2⟩ : ∃ u : List Dat → List Dat, u = tlS := ⟨_, rfl⟩
  obtain ⟨uWord, huWord⟩ : ∃ u : List UInt8 → Bool, u = wordF := ⟨_, rfl⟩
  have hG : TblOK Tryd.prog [(21, .m (φFail uFail)), (40, .m (φNext uNext uNext1 uNext2)), (41, .p (φWord uWord))] := ⟨(by rw [huFail]; exact φFail_ok), (by rw [huNext, huNext1, huNext2]; exact φNext_ok), (by rw [huWord]; exact φWord_ok), trivial⟩
  unfold curB
  have q : uNext es = true := by subst huFail huNext huNext1 huNext2 huWord; exact h
  refine ASpec.enterK Tryd.func19 (by kernel_rfl) rfl (Nat.le_of_ble_eq_true rfl) fun hok cx hnt hfr => ?_
  obtain ⟨F, hF⟩ := real_ex
  refine AK.runTn hF tabOK hmix hnt [] false _ hG (Nat.le_of_eq hfr) ?_
  conv => arg 4; cbv
  repeat' (first | with_reducible refine AKt.have ?_ | with_reducible refine AKt.tt ?_ | with_reducible refine AKt.ff ?_ | with_reducible refine AKt.yes (by assumption) ?_ | with_reducible refine AKt.no (by assumption) ?_ | with_reducible refine AKt.node (fun hb => ?_) (fun hb => ?_) | with_reducible refine AKt.need ?_ (fun hb => ?_) | with_reducible refine AKt.leaf ?_ | ((with_reducible show _ = true); assumption))
  all_goals
    first | refine AKp.doneM tabOK hfr (by rfl) (by rfl) ?_ ?_ | refine AKp.endM tabOK hfr (by rfl) (by rfl) ?_ ?_
    all_goals show _ = _
    · subst huFail huNext huNext1 huNext2 huWord
      simp only [hF, f_ltI, f_leI, f_eqI, f_eqS, f_eqB, f_not, f_andB, f_orB, f_lenS, f_lenD, f_hasS, f_atS, f_hasC, f_subS, f_hasCat, f_app, f_wrap, f_add, f_sub, f_mul, f_appD, f_fits, f_hasV, f_subV, decide_eq_true_eq, decide_eq_false_iff_not, beq_iff_eq, beq_eq_false_iff_ne, Bool.and_eq_true, Bool.and_eq_false_iff, Bool.not_eq_true, Bool.not_eq_false, Bool.not_eq_eq_eq_not, Bool.not_true, Bool.not_false] at *
      simp [wrdV, wrdB, tupAV, *]
    · subst huFail huNext huNext1 huNext2 huWord
      simp only [hF, f_ltI, f_leI, f_eqI, f_eqS, f_eqB, f_not, f_andB, f_orB, f_lenS, f_lenD, f_hasS, f_atS, f_hasC, f_subS, f_hasCat, f_app, f_wrap, f_add, f_sub, f_mul, f_appD, f_fits, f_hasV, f_subV, decide_eq_true_eq, decide_eq_false_iff_not, beq_iff_eq, beq_eq_false_iff_ne, Bool.and_eq_true, Bool.and_eq_false_iff, Bool.not_eq_true, Bool.not_eq_false, Bool.not_eq_eq_eq_not, Bool.not_true, Bool.not_false] at *
      simp [wrdE, wrdB, *]
def φCWord (p : List Dat → Bool) (u : List Dat → Bool → List UInt8) (v : List Dat → List Dat) (f : List Dat → Int → Bool → Int) : Nat → List AV → List (Nat × Blk) → Option (Bool × AV × List (Nat × Blk) × Nat)
  | 1, [.ptr 0 0 0 2, .d (.s (.bool n))], [(0, .cs 46 [.d (.view 1 es), .d (.s (.int .i64 e))])] => some (p es, .d (.s (.str (u es n))), [(0, .cs 46 [.d (.view 1 (v es)), .d (.s (.int .i64 (f es e n)))])], 1)
  | _, _, _ => none
theorem φCWord_ok : MSpOK Tryd.prog 19 (φCWord (okS) (wrdV) (tlS) (wrdE)) := by
  intro fr xs h b x h1 fr1 h hb
  unfold φCWord at h
  split at h
  · simp only [Option.some.injEq, Prod.mk.injEq] at h
    obtain ⟨rfl, rfl, rfl, rfl⟩ := h
    exact word_spec _ _ _ hb
  · cases h

def lstE (es : List Dat) (e : Int) : Int := if listB (hdS es) = true then e else failV e 2
theorem list_spec (es : List Dat) (e : Int) (h : okS es = true) : ASpec Tryd.prog 20 [.ptr 0 0 0 2] (curB es e) 1 (fun y h1 fr1 => y = .d (.view 1 (listV (hdS es))) ∧ h1 = curB (tlS es) (lstE es e) ∧ fr1 = 1) := by
  obtain ⟨uFail, huFail⟩ : ∃ u : Int → Int → Int, u = failV := ⟨_, rfl⟩
  obtain ⟨uNext, huNext⟩ : ∃ u : List Dat → Bool, u = okS := ⟨_, rfl⟩
  obtain ⟨uNext1, huNext1⟩ : ∃ u : List Dat → List UInt8, u = hdS := ⟨_, rfl⟩
  obtain ⟨uNext2, huNext2⟩ : ∃ u : List Dat → List Dat, u = tlS := ⟨_, rfl⟩
  obtain ⟨uList, huList⟩ : ∃ u : List UInt8 → List Dat, u = listV := ⟨_, rfl⟩
  obtain ⟨uList1, huList1⟩ : ∃ u : List UInt8 → Bool, u = listB := ⟨_, rfl⟩
  have hG : TblOK Tryd.prog [(21, .m (φFail uFail)), (40, .m (φNext uNext uNext1 uNext2)), (42, .p (φList uList uList1))] := ⟨(by rw [huFail]; exact φFail_ok), (by rw [huNext, huNext1, huNext2]; exact φNext_ok), (by rw [huList, huList1]; exact φList_ok), trivial⟩
  unfold curB
  have q : uNext es = true := by subst huFail huNext huNext1 huNext2 huList huList1; exact h
  refine ASpec.enterK Tryd.func20 (by kernel_rfl) rfl (Nat.le_of_ble_eq_true rfl) fun hok cx hnt hfr => ?_
  obtain ⟨F, hF⟩ := real_ex
  refine AK.runTn hF tabOK hmix hnt [] false _ hG (Nat.le_of_eq hfr) ?_
  conv => arg 4; cbv
  repeat' (first | with_reducible refine AKt.have ?_ | with_reducible refine AKt.tt ?_ | with_reducible refine AKt.ff ?_ | with_reducible refine AKt.yes (by assumption) ?_ | with_reducible refine AKt.no (by assumption) ?_ | with_reducible refine AKt.node (fun hb => ?_) (fun hb => ?_) | with_reducible refine AKt.need ?_ (fun hb => ?_) | with_reducible refine AKt.leaf ?_ | ((with_reducible show _ = true); assumption))
  all_goals
    first | refine AKp.doneM tabOK hfr (by rfl) (by rfl) ?_ ?_ | refine AKp.endM tabOK hfr (by rfl) (by rfl) ?_ ?_
    all_goals show _ = _
    · subst huFail huNext huNext1 huNext2 huList huList1
      rfl
    · subst huFail huNext huNext1 huNext2 huList huList1
      simp only [hF, f_ltI, f_leI, f_eqI, f_eqS, f_eqB, f_not, f_andB, f_orB, f_lenS, f_lenD, f_hasS, f_atS, f_hasC, f_subS, f_hasCat, f_app, f_wrap, f_add, f_sub, f_mul, f_appD, f_fits, f_hasV, f_subV, decide_eq_true_eq, decide_eq_false_iff_not, beq_iff_eq, beq_eq_false_iff_ne, Bool.and_eq_true, Bool.and_eq_false_iff, Bool.not_eq_true, Bool.not_eq_false, Bool.not_eq_eq_eq_not, Bool.not_true, Bool.not_false] at *
      simp [lstE, *]
def φCList (p : List Dat → Bool) (u : List Dat → List Dat) (v : List Dat → List Dat) (f : List Dat → Int → Int) : Nat → List AV → List (Nat × Blk) → Option (Bool × AV × List (Nat × Blk) × Nat)
  | 1, [.ptr 0 0 0 2], [(0, .cs 46 [.d (.view 1 es), .d (.s (.int .i64 e))])] => some (p es, .d (.view 1 (u es)), [(0, .cs 46 [.d (.view 1 (v es)), .d (.s (.int .i64 (f es e)))])], 1)
  | _, _, _ => none
theorem φCList_ok : MSpOK Tryd.prog 20 (φCList (okS) (fun es => listV (hdS es)) (tlS) (lstE)) := by
  intro fr xs h b x h1 fr1 h hb
  unfold φCList at h
  split at h
  · simp only [Option.some.injEq, Prod.mk.injEq] at h
    obtain ⟨rfl, rfl, rfl, rfl⟩ := h
    exact list_spec _ _ hb
  · cases h
end Go.Proofs.YtmhkmoeailamlaaDoor

/- Lines of words: plain laws; lists of bytes. -/
namespace Go.Proofs.YtmhkmoeailamlaaDoor
open Go Go.Proofs Go.Ua Go.Extern
set_option linter.unusedVariables false
set_option linter.unusedSimpArgs false

def intDs (ns : List Int) : List Dat := ns.map fun n => .s (.int .u8 n)

theorem words_blanks (n : Nat) (x : List UInt8) : wordsF (List.replicate n 32 ++ x) = wordsF x := by
  induction n with
  | zero => rfl
  | succ n ih =>
    have := words_app (p := []) (List.replicate n 32 ++ x) (by simp)
    rw [List.replicate_succ, List.cons_append]
    exact this.trans ih

/-- A line that is read as ws, whatever follows behind a blank. -/
def LineOK (line : List UInt8) (ws : List (List UInt8)) : Prop := wordsF line = ws ∧ ∀ r, wordsF (line ++ 32 :: r) = ws ++ wordsF r
theorem line_nil : LineOK [] [] := ⟨rfl, fun r => words_app (p := []) r (by simp)⟩
theorem word_no {w : List UInt8} (h : wordF w = true) : w ≠ [] ∧ (32 : UInt8) ∉ w ∧ (10 : UInt8) ∉ w := by
  refine ⟨(word_parts h).1, fun hm => ?_, fun hm => ?_⟩
  · rw [wordF_no hm (.inr (.inl rfl))] at h; cases h
  · rw [wordF_no hm (.inr (.inr rfl))] at h; cases h
theorem line_snoc {line : List UInt8} {ws : List (List UInt8)} (h : LineOK line ws) (n : Nat) {w : List UInt8} (hw : wordF w = true) : LineOK (line ++ List.replicate (n + 1) 32 ++ w) (ws ++ [w]) := by
  obtain ⟨h1, h2, _⟩ := word_no hw
  have e : ∀ r, line ++ List.replicate (n + 1) 32 ++ r = line ++ 32 :: (List.replicate n 32 ++ r) := fun r => by simp [List.replicate_succ]
  refine ⟨?_, fun r => ?_⟩
  · rw [e, h.2, words_blanks]
    have := words_none h2
    rw [if_neg h1] at this
    exact congrArg (ws ++ ·) this
  · rw [List.append_assoc, e, h.2, words_blanks]
    have := words_app r h2
    rw [if_neg h1] at this
    rw [show wordsF (w ++ 32 :: r) = [w] ++ wordsF r from this, List.append_assoc]
def linesOf (ws : List (List UInt8)) : List UInt8 := (ws.map fun w => w ++ [10]).flatten
theorem linesOf_snoc (ws : List (List UInt8)) (w : List UInt8) : linesOf (ws ++ [w]) = linesOf ws ++ (w ++ [10]) := by simp [linesOf]
theorem cut_lines : ∀ {ws : List (List UInt8)}, (∀ w, w ∈ ws → wordF w = true) → cutF 10 (linesOf ws) = ws ++ [[]]
  | [], _ => rfl
  | w :: ws, h => by
    have ih := cut_lines (ws := ws) fun x hx => h x (List.mem_cons_of_mem _ hx)
    have : linesOf (w :: ws) = w ++ 10 :: linesOf ws := by simp [linesOf]
    rw [this, cut_app _ (word_no (h w (by simp))).2.2, ih]
    rfl
theorem lines_of {ws : List (List UInt8)} (h : ∀ w, w ∈ ws → wordF w = true) : linesF (linesOf ws) = ws := by
  unfold linesF
  rw [cut_lines h]
  simp

theorem typed_bytes {f : Nat} {l : List Dat} (h : typed tab (f + 2) 41 l) : ∃ zs, l = [.view 1 (intDs zs)] := by
  obtain ⟨es, rfl, hlen, hes⟩ := h
  clear hlen
  have : ∃ zs, es = intDs zs := by
    induction es with
    | nil => exact ⟨[], rfl⟩
    | cons x es ih =>
      obtain ⟨zs, rfl⟩ := ih fun x hx => hes x (List.mem_cons_of_mem _ hx)
      obtain ⟨l', rfl, s, rfl, _⟩ := hes x (by simp)
      exact ⟨s :: zs, rfl⟩
  obtain ⟨zs, rfl⟩ := this
  exact ⟨zs, rfl⟩
end Go.Proofs.YtmhkmoeailamlaaDoor

/- The first word of a line; what is loaded: plain. -/
namespace Go.Proofs.YtmhkmoeailamlaaDoor
open Go Go.Proofs Go.Ua Go.Extern
set_option linter.unusedVariables false
set_option linter.unusedSimpArgs false

theorem first_word : ∀ {s w : List UInt8} {r : List (List UInt8)}, wordsF s = w :: r → ∃ (n : Nat) (rest : List UInt8), s = List.replicate n 32 ++ (w ++ rest) ∧ (rest = [] ∨ ∃ t, rest = 32 :: t)
  | [], w, r, h => by simp [wordsF, cutF] at h
  | b :: s, w, r, h => by
    by_cases hb : b = 32
    · subst hb
      have := words_blanks 1 s
      simp only [List.replicate_one, List.singleton_append] at this
      rw [this] at h
      obtain ⟨n, rest, h1, h2⟩ := first_word h
      exact ⟨n + 1, rest, by rw [h1, List.replicate_succ]; rfl, h2⟩
    · obtain ⟨c1, c2⟩ := cutF_index 32 (b :: s)
      by_cases hi : Lib.indexByte (b :: s) 32 = -1
      · have := (c1 hi).1
        unfold wordsF at h
        rw [this] at h
        simp at h
        exact ⟨0, [], by simp [h.1], .inl rfl⟩
      · obtain ⟨i, hii⟩ : ∃ i : Nat, Lib.indexByte (b :: s) 32 = i := ⟨(Lib.indexByte (b :: s) 32).toNat, by have := Lib.indexByte_ge (b :: s) 32; omega⟩
        have hc := (c2 i hii).1
        obtain ⟨g1, g2⟩ := Lib.indexByte_some hii
        have hi0 : i ≠ 0 := fun e => by subst e; simp at g1; exact hb g1
        obtain ⟨j, rfl⟩ : ∃ j, i = j + 1 := ⟨i - 1, by omega⟩
        unfold wordsF at h
        rw [hc] at h
        simp at h
        refine ⟨0, (b :: s).drop (j + 1), ?_, .inr ⟨(b :: s).drop (j + 2), ?_⟩⟩
        · rw [← h.1]; simp
        · rw [List.drop_eq_getElem_cons (i := j + 1) (by have := (List.getElem?_eq_some_iff.1 g1).1; omega)]
          obtain ⟨k1, k2⟩ := List.getElem?_eq_some_iff.1 g1
          rw [k2]

theorem replaceK_map {c d : UInt8} (hcd : c ≠ d) : ∀ (n : Nat) (s : List UInt8), s.length ≤ n → Lib.replaceK [c] [d] (s.count c) s = s.map fun b => if b = c then d else b
  | 0, s, h => by
    obtain rfl := List.length_eq_zero_iff.1 (Nat.le_zero.1 h)
    rfl
  | n + 1, s, h => by
    by_cases hi : Lib.indexByte s c = -1
    · have hno := Lib.indexByte_none hi
      have hm : c ∉ s := fun hm => by
        obtain ⟨k, hk⟩ := List.getElem?_of_mem hm
        exact hno k hk
      rw [List.count_eq_zero_of_not_mem hm, Lib.replaceK]
      symm
      conv => rhs; rw [← List.map_id s]
      refine List.map_congr_left fun b hb => ?_
      rw [if_neg (show ¬ b = c from fun e => hm (e ▸ hb))]
      rfl
    · obtain ⟨i, hii⟩ : ∃ i : Nat, Lib.indexByte s c = i := ⟨(Lib.indexByte s c).toNat, by have := Lib.indexByte_ge s c; omega⟩
      have hc := ((cutF_index c s).2 i hii).2
      obtain ⟨g1, g2⟩ := Lib.indexByte_some hii
      obtain ⟨k1, k2⟩ := List.getElem?_eq_some_iff.1 g1
      rw [hc, Lib.replaceK_hit _ _ _ _ i (by rw [Lib.index_one]; exact hii)]
      have ih := replaceK_map hcd n (s.drop (i + 1)) (by simp; omega)
      rw [show i + [c].length = i + 1 from rfl, ih]
      conv => rhs; rw [← List.take_append_drop i s, List.drop_eq_getElem_cons k1, k2]
      rw [List.map_append, List.map_cons, if_pos rfl]
      have : (s.take i).map (fun b => if b = c then d else b) = s.take i := by
        conv => rhs; rw [← List.map_id (s.take i)]
        refine List.map_congr_left fun b hb => ?_
        obtain ⟨k, hk⟩ := List.getElem?_of_mem hb
        rw [List.getElem?_take] at hk
        split at hk
        · rename_i hki
          rw [if_neg (show ¬ b = c from fun e => g2 k hki (by rw [hk, e]))]
          rfl
        · cases hk
      rw [this]
      simp
theorem replace_map {c d : UInt8} (hcd : c ≠ d) (s : List UInt8) : Lib.replaceAll s [c] [d] = s.map fun b => if b = c then d else b := by
  unfold Lib.replaceAll Lib.replace Lib.replaceNum
  rw [if_neg (by simp [hcd]), if_pos (by left; decide), Lib.count_one, replaceK_map hcd _ _ (Nat.le_refl _)]

def swapB (a b : UInt8) (s : List UInt8) : List UInt8 := s.map fun x => if x = a then b else x
theorem index_word {p : List UInt8} {n : Nat} {q rest : List UInt8} {c : UInt8} (hq : q = c :: p) (hc : c ≠ 32) : Lib.index (List.replicate n 32 ++ (q ++ rest)) q = n := by
  refine Lib.index_first (by simp) ?_ fun j hj => ?_
  · unfold Lib.occAt
    rw [List.drop_append_of_le_length (by simp), List.drop_eq_nil_of_le (by simp)]
    simp
  · unfold Lib.occAt
    rw [List.drop_append_of_le_length (by simp; omega), List.drop_replicate]
    obtain ⟨k, hk⟩ : ∃ k, n - j = k + 1 := ⟨n - j - 1, by omega⟩
    rw [hk, List.replicate_succ, hq]
    show (c == 32 && _) = false
    rw [beq_eq_false_iff_ne.2 hc]
    rfl
/-- What is loaded by a line. -/
def loadF (s : List UInt8) : List UInt8 := Lib.replaceAll (Lib.trimPrefix (Lib.cut s [108, 111, 97, 100]).2.1 [32]) [59] [10]
def restF : List UInt8 → List UInt8
  | 32 :: t => t
  | t => t
theorem load_at (n : Nat) {rest : List UInt8} : loadF (List.replicate n 32 ++ ([108, 111, 97, 100] ++ rest)) = swapB 59 10 (restF rest) := by
  unfold loadF Lib.cut
  rw [index_word (c := 108) (p := [111, 97, 100]) rfl (by decide), if_pos (by omega), replace_map (by decide)]
  have : (List.replicate n (32 : UInt8) ++ ([108, 111, 97, 100] ++ rest)).drop (((n : Nat) : Int).toNat + [108, 111, 97, 100].length) = rest := by
    rw [Int.toNat_natCast, ← List.append_assoc, List.drop_left']
    simp
  show ((Lib.trimPrefix ((List.replicate n (32 : UInt8) ++ ([108, 111, 97, 100] ++ rest)).drop (((n : Nat) : Int).toNat + [108, 111, 97, 100].length)) [32]).map fun b => if b = 59 then 10 else b) = _
  rw [this]
  unfold swapB
  congr 1
  unfold Lib.trimPrefix Lib.hasPrefix
  cases rest with
  | nil => rfl
  | cons x t =>
    by_cases hx : x = 32
    · subst hx; rfl
    · rw [if_neg (by simp [Ne.symm hx])]
      unfold restF
      split
      · rename_i h; injection h with h1 h2; exact absurd h1 hx
      · rfl
end Go.Proofs.YtmhkmoeailamlaaDoor

/- What a line loads. -/
namespace Go.Proofs.YtmhkmoeailamlaaDoor
open Go Go.Proofs Go.Ua Go.Extern
set_option linter.unusedVariables false
set_option linter.unusedSimpArgs false
set_option maxRecDepth 10000

def leL (s : List UInt8) : Bool := decide (s.length ≤ 1000000)
def φSCut (p : List UInt8 → Bool) (u v : List UInt8 → List UInt8 → List UInt8) (b : List UInt8 → List UInt8 → Bool) : List AV → Option (Bool × AV)
  | [.d (.s (.str s)), .d (.s (.str t))] => some (p s, .tup [.d (.s (.str (u s t))), .d (.s (.str (v s t))), .d (.s (.bool (b s t)))])
  | _ => none
theorem φSCut_ok : SpOK Tryd.prog 36 (φSCut (leL) (fun s t => (Lib.cut s t).1) (fun s t => (Lib.cut s t).2.1) (fun s t => (Lib.cut s t).2.2)) := by
  intro xs b x h hb
  unfold φSCut at h
  split at h
  · simp only [Option.some.injEq, Prod.mk.injEq] at h
    obtain ⟨rfl, rfl⟩ := h
    exact SCut_spec _ _ (Nat.lt_of_le_of_lt (of_decide_eq_true hb) (by decide))
  · cases h
def φSTrim (p : List UInt8 → Bool) (u : List UInt8 → List UInt8 → List UInt8) : List AV → Option (Bool × AV)
  | [.d (.s (.str s)), .d (.s (.str t))] => some (p s, .d (.s (.str (u s t))))
  | _ => none
theorem φSTrim_ok : SpOK Tryd.prog 37 (φSTrim (leL) (Lib.trimPrefix)) := by
  intro xs b x h hb
  unfold φSTrim at h
  split at h
  · simp only [Option.some.injEq, Prod.mk.injEq] at h
    obtain ⟨rfl, rfl⟩ := h
    exact STrimPrefix_spec _ _ (Nat.lt_of_le_of_lt (of_decide_eq_true hb) (by decide))
  · cases h
def repP (s a b : List UInt8) : Bool := leL s && (decide (a = [59] ∧ b = [10]) || decide (a = [10] ∧ b = [59]))
theorem repP_spec {s a b : List UInt8} (h : repP s a b = true) : ESpec Tryd.prog 38 [.d (.s (.str s)), .d (.s (.str a)), .d (.s (.str b))] (fun x => x = .d (.s (.str (Lib.replaceAll s a b)))) := by
  have hm : maxLen = 9223372036854775807 := by decide
  simp only [repP, Bool.and_eq_true, Bool.or_eq_true, decide_eq_true_eq] at h
  have hl : s.length ≤ 1000000 := of_decide_eq_true h.1
  rcases h.2 with ⟨rfl, rfl⟩ | ⟨rfl, rfl⟩
  · exact SReplaceAll_spec _ _ _ (by omega) (by decide) (by decide) (by rw [replace_map (by decide)]; simp; omega)
  · exact SReplaceAll_spec _ _ _ (by omega) (by decide) (by decide) (by rw [replace_map (by decide)]; simp; omega)
def φSReplace (p : List UInt8 → List UInt8 → List UInt8 → Bool) (u : List UInt8 → List UInt8 → List UInt8 → List UInt8) : List AV → Option (Bool × AV)
  | [.d (.s (.str s)), .d (.s (.str a)), .d (.s (.str b))] => some (p s a b, .d (.s (.str (u s a b))))
  | _ => none
theorem φSReplace_ok : SpOK Tryd.prog 38 (φSReplace (repP) (Lib.replaceAll)) := by
  intro xs b x h hb
  unfold φSReplace at h
  split at h
  · simp only [Option.some.injEq, Prod.mk.injEq] at h
    obtain ⟨rfl, rfl⟩ := h
    exact repP_spec hb
  · cases h

/-- An event. -/
structure Ev where
  k : Int
  id : Int
  n : Int
  us : List UInt8
  gs : List (List UInt8)
  vb : List UInt8
  rs : List UInt8
  sp : List UInt8
  ob : Int
  tx : List UInt8
def Ev.dat (e : Ev) : Dat := .agg [.s (.int .i64 e.k), .s (.int .i64 e.id), .s (.int .i64 e.n), .s (.str e.us), .view 1 (strDs e.gs), .s (.str e.vb), .s (.str e.rs), .s (.str e.sp), .s (.int .i64 e.ob), .s (.str e.tx)]
def ev0 : Ev := ⟨0, 0, 0, [], [], [], [], [], 0, []⟩

theorem load_spec (s : List UInt8) (hs : leL s = true) : ESpec Tryd.prog 17 [.d (.s (.str s))] (fun x => x = .d (Ev.dat ⟨5, 0, 0, [], [], [], [], [], 0, loadF s⟩)) := by
  obtain ⟨uSCut, huSCut⟩ : ∃ u : List UInt8 → Bool, u = leL := ⟨_, rfl⟩
  obtain ⟨uSCut1, huSCut1⟩ : ∃ u : List UInt8 → List UInt8 → List UInt8, u = fun s t => (Lib.cut s t).1 := ⟨_, rfl⟩
  obtain ⟨uSCut2, huSCut2⟩ : ∃ u : List UInt8 → List UInt8 → List UInt8, u = fun s t => (Lib.cut s t).2.1 := ⟨_, rfl⟩
  obtain ⟨uSCut3, huSCut3⟩ : ∃ u : List UInt8 → List UInt8 → Bool, u = fun s t => (Lib.cut s t).2.2 := ⟨_, rfl⟩
  obtain ⟨uSTrim, huSTrim⟩ : ∃ u : List UInt8 → Bool, u = leL := ⟨_, rfl⟩
  obtain ⟨uSTrim1, huSTrim1⟩ : ∃ u : List UInt8 → List UInt8 → List UInt8, u = Lib.trimPrefix := ⟨_, rfl⟩
  obtain ⟨uSReplace, huSReplace⟩ : ∃ u : List UInt8 → List UInt8 → List UInt8 → Bool, u = repP := ⟨_, rfl⟩
  obtain ⟨uSReplace1, huSReplace1⟩ : ∃ u : List UInt8 → List UInt8 → List UInt8 → List UInt8, u = Lib.replaceAll := ⟨_, rfl⟩
  have hG : TblOK Tryd.prog [(36, .p (φSCut uSCut uSCut1 uSCut2 uSCut3)), (37, .p (φSTrim uSTrim uSTrim1)), (38, .p (φSReplace uSReplace uSReplace1))] := ⟨(by rw [huSCut, huSCut1, huSCut2, huSCut3]; exact φSCut_ok), (by rw [huSTrim, huSTrim1]; exact φSTrim_ok), (by rw [huSReplace, huSReplace1]; exact φSReplace_ok), trivial⟩
  have hl : s.length ≤ 1000000 := of_decide_eq_true hs
  have q0 : uSCut s = true := by subst huSCut huSCut1 huSCut2 huSCut3 huSTrim huSTrim1 huSReplace huSReplace1; exact hs
  have hl2 : (uSCut2 s [108, 111, 97, 100]).length ≤ s.length := by
    subst huSCut huSCut1 huSCut2 huSCut3 huSTrim huSTrim1 huSReplace huSReplace1
    show (Lib.cut s [108, 111, 97, 100]).2.1.length ≤ _
    unfold Lib.cut
    split
    · simp only [List.length_drop]; omega
    · exact Nat.zero_le _
  have q1 : uSTrim (uSCut2 s [108, 111, 97, 100]) = true := by
    clear q0
    subst huSCut huSCut1 huSCut2 huSCut3 huSTrim huSTrim1 huSReplace huSReplace1
    exact decide_eq_true (by omega)
  have hl3 : (uSTrim1 (uSCut2 s [108, 111, 97, 100]) [32]).length ≤ s.length := by
    rw [huSTrim1]
    unfold Lib.trimPrefix
    split
    · simp only [List.length_drop]; omega
    · exact hl2
  have q2 : uSReplace (uSTrim1 (uSCut2 s [108, 111, 97, 100]) [32]) [59] [10] = true := by
    rw [huSReplace]
    unfold repP leL
    rw [decide_eq_true (show _ ≤ 1000000 by omega)]
    rfl
  have e1 : uSReplace1 (uSTrim1 (uSCut2 s [108, 111, 97, 100]) [32]) [59] [10] = loadF s := by rw [huSReplace1, huSTrim1, huSCut2]; rfl
  obtain ⟨z, hz⟩ : ∃ z, z = loadF s := ⟨_, rfl⟩
  rw [← hz] at e1 ⊢
  refine ESpec.enter Tryd.func17 (by kernel_rfl) rfl (Nat.le_of_ble_eq_true rfl) fun hok cx hnt hfr => ?_
  obtain ⟨F, hF⟩ := real_ex
  refine AK.runT hF tabOK hmix hnt hfr false _ hG ?_
  conv => arg 4; cbv
  rw [e1]
  repeat' (first | with_reducible refine AKt.have ?_ | with_reducible refine AKt.tt ?_ | with_reducible refine AKt.ff ?_ | with_reducible refine AKt.yes (by assumption) ?_ | with_reducible refine AKt.no (by assumption) ?_ | with_reducible refine AKt.node (fun hb => ?_) (fun hb => ?_) | with_reducible refine AKt.need ?_ (fun hb => ?_) | with_reducible refine AKt.leaf ?_ | ((with_reducible show _ = true); assumption))
  refine AKp.doneL tabOK hfr (by rfl) ?_
  exact .one (.d (.agg (by repeat' first | exact .nil _ | exact .refl _ | exact .nil | refine .cons ?_ ?_)))
def φLoad (p : List UInt8 → Bool) (u : List UInt8 → List UInt8) : List AV → Option (Bool × AV)
  | [.d (.s (.str s))] => some (p s, .d (.agg [.s (.int .i64 5), .s (.int .i64 0), .s (.int .i64 0), .s (.str []), .view 1 [], .s (.str []), .s (.str []), .s (.str []), .s (.int .i64 0), .s (.str (u s))]))
  | _ => none
theorem φLoad_ok : SpOK Tryd.prog 17 (φLoad (leL) (loadF)) := by
  intro xs b x h hb
  unfold φLoad at h
  split at h
  · simp only [Option.some.injEq, Prod.mk.injEq] at h
    obtain ⟨rfl, rfl⟩ := h
    exact load_spec _ hb
  · cases h
end Go.Proofs.YtmhkmoeailamlaaDoor

/- A line is read. -/
namespace Go.Proofs.YtmhkmoeailamlaaDoor
open Go Go.Proofs Go.Ua Go.Extern
set_option linter.unusedVariables false
set_option linter.unusedSimpArgs false
set_option maxRecDepth 10000

def eN (w : List UInt8) (a b e : Int) : Int := if numB w a b = true then e else failV e 8
def eW (w : List UInt8) (e : Int) : Int := if wordF w = true then e else failV e 4
def eS (w : List UInt8) (e : Int) : Int := if (decide (w = [45]) || wordF w) = true then e else failV e 4
def eL (w : List UInt8) (e : Int) : Int := if listB w = true then e else failV e 2
def spV (w : List UInt8) : List UInt8 := if w = [45] then [] else w
def newE (ws : List (List UInt8)) : Int := eN (ws.getD 7 []) 0 1048576 (eS (ws.getD 6 []) (eW (ws.getD 5 []) (eW (ws.getD 4 []) (eL (ws.getD 3 []) (eW (ws.getD 2 []) (eN (ws.getD 1 []) 0 999999999 0))))))
def newV (ws : List (List UInt8)) : Ev := ⟨1, numV (ws.getD 1 []) 0 999999999, 0, ws.getD 2 [], unStr (listV (ws.getD 3 [])), ws.getD 4 [], ws.getD 5 [], spV (ws.getD 6 []), numV (ws.getD 7 []) 0 1048576, []⟩
def orE (v : Ev) (e : Int) : Ev × Int := if e = 0 then (v, 0) else (ev0, e)
/-- What a line says. -/
def readP (s : List UInt8) (ws : List (List UInt8)) : Ev × Int :=
  if ws.length = 0 then (ev0, 2)
  else if ws.getD 0 [] = [108, 111, 97, 100] then (⟨5, 0, 0, [], [], [], [], [], 0, loadF s⟩, 0)
  else if ws.getD 0 [] = [110, 101, 119] ∧ ws.length = 8 then orE (newV ws) (newE ws)
  else if ws.getD 0 [] = [100, 111, 110, 101] ∧ ws.length = 2 then orE ⟨2, numV (ws.getD 1 []) 0 999999999, 0, [], [], [], [], [], 0, []⟩ (eN (ws.getD 1 []) 0 999999999 0)
  else if ws.getD 0 [] = [100, 114, 111, 112] ∧ ws.length = 2 then orE ⟨3, numV (ws.getD 1 []) 0 999999999, 0, [], [], [], [], [], 0, []⟩ (eN (ws.getD 1 []) 0 999999999 0)
  else if ws.getD 0 [] = [116, 105, 99, 107] ∧ ws.length = 2 then orE ⟨4, 0, numV (ws.getD 1 []) 1 1000, [], [], [], [], [], 0, []⟩ (eN (ws.getD 1 []) 1 1000 0)
  else (ev0, 2)
def readV (s : List UInt8) : Ev := (readP s (wordsF s)).1
def readE (s : List UInt8) : Int := (readP s (wordsF s)).2

theorem okS_drop {ws : List (List UInt8)} {k : Nat} (h : k < ws.length) : okS (strDs (ws.drop k)) = true := by
  unfold okS
  rw [isStrs_strDs, strDs_length, List.length_drop, decide_eq_true (by omega)]
  rfl
theorem hdS_drop (ws : List (List UInt8)) (k : Nat) : hdS (strDs (ws.drop k)) = ws.getD k [] := by
  unfold hdS
  rw [unStr_strDs, List.getD_eq_getElem?_getD, List.getD_eq_getElem?_getD, List.getElem?_drop]
  rfl
theorem tlS_drop (ws : List (List UInt8)) (k : Nat) : tlS (strDs (ws.drop k)) = strDs (ws.drop (k + 1)) := by
  unfold tlS
  rw [strDs_drop, List.drop_drop]

theorem lex1 {e : Int} : LeX (.tup [.d (.agg [.s (.int .i64 0), .s (.int .i64 0), .s (.int .i64 0), .s (.str []), .s .sl0, .s (.str []), .s (.str []), .s (.str []), .s (.int .i64 0), .s (.str [])]), .d (.s (.int .i64 e))]) (.tup [.d ev0.dat, .d (.s (.int .i64 e))]) :=
  .tup (.cons (.d (.agg (by repeat' first | exact .nil _ | exact .refl _ | exact .nil | refine .cons ?_ ?_))) (.cons (.refl _) .nil))
set_option maxHeartbeats 4000000 in
set_option cbv.maxSteps 10000000 in
theorem Read_spec (s : List UInt8) (hs : leL s = true) : ESpec Tryd.prog 9 [.d (.s (.str s))] (fun x => x = .tup [.d (readV s).dat, .d (.s (.int .i64 (readE s)))]) := by
  obtain ⟨uWords, huWords⟩ : ∃ u : List UInt8 → Bool, u = le32 := ⟨_, rfl⟩
  obtain ⟨uWords1, huWords1⟩ : ∃ u : List UInt8 → List Dat, u = fun w => strDs (wordsF w) := ⟨_, rfl⟩
  obtain ⟨uLoad, huLoad⟩ : ∃ u : List UInt8 → Bool, u = leL := ⟨_, rfl⟩
  obtain ⟨uLoad1, huLoad1⟩ : ∃ u : List UInt8 → List UInt8, u = loadF := ⟨_, rfl⟩
  obtain ⟨uFail, huFail⟩ : ∃ u : Int → Int → Int, u = failV := ⟨_, rfl⟩
  obtain ⟨uCNumber, huCNumber⟩ : ∃ u : List Dat → Bool, u = okS := ⟨_, rfl⟩
  obtain ⟨uCNumber1, huCNumber1⟩ : ∃ u : List Dat → Int → Int → Int, u = fun es a b => numV (hdS es) a b := ⟨_, rfl⟩
  obtain ⟨uCNumber2, huCNumber2⟩ : ∃ u : List Dat → List Dat, u = tlS := ⟨_, rfl⟩
  obtain ⟨uCNumber3, huCNumber3⟩ : ∃ u : List Dat → Int → Int → Int → Int, u = numE := ⟨_, rfl⟩
  obtain ⟨uCWord, huCWord⟩ : ∃ u : List Dat → Bool, u = okS := ⟨_, rfl⟩
  obtain ⟨uCWord1, huCWord1⟩ : ∃ u : List Dat → Bool → List UInt8, u = wrdV := ⟨_, rfl⟩
  obtain ⟨uCWord2, huCWord2⟩ : ∃ u : List Dat → List Dat, u = tlS := ⟨_, rfl⟩
  obtain ⟨uCWord3, huCWord3⟩ : ∃ u : List Dat → Int → Bool → Int, u = wrdE := ⟨_, rfl⟩
  obtain ⟨uCList, huCList⟩ : ∃ u : List Dat → Bool, u = okS := ⟨_, rfl⟩
  obtain ⟨uCList1, huCList1⟩ : ∃ u : List Dat → List Dat, u = fun es => listV (hdS es) := ⟨_, rfl⟩
  obtain ⟨uCList2, huCList2⟩ : ∃ u : List Dat → List Dat, u = tlS := ⟨_, rfl⟩
  obtain ⟨uCList3, huCList3⟩ : ∃ u : List Dat → Int → Int, u = lstE := ⟨_, rfl⟩
  have hG : TblOK Tryd.prog [(16, .p (φWords uWords uWords1)), (17, .p (φLoad uLoad uLoad1)), (21, .m (φFail uFail)), (18, .m (φCNumber uCNumber uCNumber1 uCNumber2 uCNumber3)), (19, .m (φCWord uCWord uCWord1 uCWord2 uCWord3)), (20, .m (φCList uCList uCList1 uCList2 uCList3))] := ⟨(by rw [huWords, huWords1]; exact φWords_ok), (by rw [huLoad, huLoad1]; exact φLoad_ok), (by rw [huFail]; exact φFail_ok), (by rw [huCNumber, huCNumber1, huCNumber2, huCNumber3]; exact φCNumber_ok), (by rw [huCWord, huCWord1, huCWord2, huCWord3]; exact φCWord_ok), (by rw [huCList, huCList1, huCList2, huCList3]; exact φCList_ok), trivial⟩
  have hl : s.length ≤ 1000000 := of_decide_eq_true hs
  have q0 : uWords s = true := by subst huWords huWords1 huLoad huLoad1 huFail huCNumber huCNumber1 huCNumber2 huCNumber3 huCWord huCWord1 huCWord2 huCWord3 huCList huCList1 huCList2 huCList3; exact decide_eq_true (by omega)
  have qL : uLoad s = true := by clear q0; subst huWords huWords1 huLoad huLoad1 huFail huCNumber huCNumber1 huCNumber2 huCNumber3 huCWord huCWord1 huCWord2 huCWord3 huCList huCList1 huCList2 huCList3; exact hs
  obtain ⟨ws, hws⟩ : ∃ z, z = wordsF s := ⟨_, rfl⟩
  obtain ⟨es, hes⟩ : ∃ z, z = uWords1 s := ⟨_, rfl⟩
  have hsd : es = strDs ws := by rw [hes, hws, huWords1]
  have hel : es.length = ws.length := by rw [hsd]; simp [strDs]
  obtain ⟨w0, hw0⟩ : ∃ z, z = ws.getD 0 [] := ⟨_, rfl⟩
  obtain ⟨Z, hZ⟩ : ∃ z, z = readP s ws := ⟨_, rfl⟩
  unfold readV readE
  rw [← hws, ← hZ]
  refine ESpec.enter Tryd.func9 (by kernel_rfl) rfl (Nat.le_of_ble_eq_true rfl) fun hok cx hnt hfr => ?_
  obtain ⟨F, hF⟩ := real_ex
  refine AK.runT hF tabOK hmix hnt hfr false _ hG ?_
  conv => arg 4; cbv
  have s0 : F .strA es 0 0 = w0 := by rw [hsd, hw0]; exact t_strG hF ws 0
  rw [← hes, s0]
  refine AKt.need q0 fun _ => ?_
  refine AKt.node (fun hb => ?_) (fun hb => ?_)
  · have h0 : ws.length = 0 := by simp only [hF, f_ltI, f_leI, f_eqI, f_eqS, f_eqB, f_not, f_andB, f_orB, f_lenS, f_lenD, f_hasS, f_atS, f_hasC, f_subS, f_hasCat, f_app, f_wrap, f_add, f_sub, f_mul, f_appD, f_fits, f_hasV, f_subV, decide_eq_true_eq, decide_eq_false_iff_not, beq_iff_eq, beq_eq_false_iff_ne, Bool.and_eq_true, Bool.and_eq_false_iff, Bool.not_eq_true, Bool.not_eq_false, Bool.not_eq_eq_eq_not, Bool.not_true, Bool.not_false] at hb; omega
    have hz : Z = (ev0, 2) := by rw [hZ, readP, if_pos h0]
    repeat' (first | with_reducible refine AKt.have ?_ | with_reducible refine AKt.tt ?_ | with_reducible refine AKt.ff ?_ | with_reducible refine AKt.yes (by assumption) ?_ | with_reducible refine AKt.no (by assumption) ?_ | with_reducible refine AKt.node (fun hb => ?_) (fun hb => ?_) | with_reducible refine AKt.need ?_ (fun hb => ?_) | with_reducible refine AKt.leaf ?_ | ((with_reducible show _ = true); assumption))
    refine AKp.doneL tabOK hfr (by rfl) ?_
    rw [hz]
    exact lex1
  have h0 : ¬ ws.length = 0 := by simp only [hF, f_ltI, f_leI, f_eqI, f_eqS, f_eqB, f_not, f_andB, f_orB, f_lenS, f_lenD, f_hasS, f_atS, f_hasC, f_subS, f_hasCat, f_app, f_wrap, f_add, f_sub, f_mul, f_appD, f_fits, f_hasV, f_subV, decide_eq_true_eq, decide_eq_false_iff_not, beq_iff_eq, beq_eq_false_iff_ne, Bool.and_eq_true, Bool.and_eq_false_iff, Bool.not_eq_true, Bool.not_eq_false, Bool.not_eq_eq_eq_not, Bool.not_true, Bool.not_false] at hb; omega
  have k1 : F .hasV es 1 (F .lenD es) = true := t_hasV hF (i := 1) (j := es.length) rfl (by rw [hF]; rfl) (by omega) (Nat.le_refl _)
  have k0 : F .hasD es 0 [.str] = true := by rw [hsd]; exact t_hasG (n := 0) hF (by omega)
  obtain ⟨t1, ht1⟩ : ∃ z, z = strDs (ws.drop 1) := ⟨_, rfl⟩
  obtain ⟨t2, ht2⟩ : ∃ z, z = strDs (ws.drop 2) := ⟨_, rfl⟩
  obtain ⟨t3, ht3⟩ : ∃ z, z = strDs (ws.drop 3) := ⟨_, rfl⟩
  obtain ⟨t4, ht4⟩ : ∃ z, z = strDs (ws.drop 4) := ⟨_, rfl⟩
  obtain ⟨t5, ht5⟩ : ∃ z, z = strDs (ws.drop 5) := ⟨_, rfl⟩
  obtain ⟨t6, ht6⟩ : ∃ z, z = strDs (ws.drop 6) := ⟨_, rfl⟩
  obtain ⟨t7, ht7⟩ : ∃ z, z = strDs (ws.drop 7) := ⟨_, rfl⟩
  have s1 : F .subV es 1 (F .lenD es) = t1 := by
    have := t_subV hF (s := es) (i := 1) (j := es.length) (iv := 1) (jv := F .lenD es) rfl (by rw [hF]; rfl)
    rw [this, List.take_length, ht1, hsd, strDs_drop]
  have c1 : uCNumber2 t1 = t2 := by rw [huCNumber2, ht1, tlS_drop, ht2]
  have c2 : uCWord2 t2 = t3 := by rw [huCWord2, ht2, tlS_drop, ht3]
  have c3 : uCList2 t3 = t4 := by rw [huCList2, ht3, tlS_drop, ht4]
  have c4 : uCWord2 t4 = t5 := by rw [huCWord2, ht4, tlS_drop, ht5]
  have c5 : uCWord2 t5 = t6 := by rw [huCWord2, ht5, tlS_drop, ht6]
  have c6 : uCWord2 t6 = t7 := by rw [huCWord2, ht6, tlS_drop, ht7]
  obtain ⟨E8, hE8⟩ : ∃ z, z = newE ws := ⟨_, rfl⟩
  have eE : uCNumber3 t7 (uCWord3 t6 (uCWord3 t5 (uCWord3 t4 (uCList3 t3 (uCWord3 t2 (uCNumber3 t1 0 0 999999999) false)) false) false) true) 0 1048576 = E8 := by
    rw [hE8, huCNumber3, huCWord3, huCList3]
    simp only [ht1, ht2, ht3, ht4, ht5, ht6, ht7, numE, wrdE, lstE, wrdB, hdS_drop, Bool.false_and, Bool.true_and, Bool.false_or]
    rfl
  have f2 : uFail 0 2 = 2 := by rw [huFail]; rfl
  have i2 : F .not (F .eqI 2 0) = true := by rw [hF]; rfl
  rw [s1, c1, c2, c3, c4, c5, c6, eE, f2, i2]
  have dif : ∀ a b : List UInt8, a ≠ b → F .eqS w0 a = true → F .eqS w0 b = false := fun a b h h1 => by
    simp only [hF, f_ltI, f_leI, f_eqI, f_eqS, f_eqB, f_not, f_andB, f_orB, f_lenS, f_lenD, f_hasS, f_atS, f_hasC, f_subS, f_hasCat, f_app, f_wrap, f_add, f_sub, f_mul, f_appD, f_fits, f_hasV, f_subV, decide_eq_true_eq, decide_eq_false_iff_not, beq_iff_eq, beq_eq_false_iff_ne, Bool.and_eq_true, Bool.and_eq_false_iff, Bool.not_eq_true, Bool.not_eq_false, Bool.not_eq_eq_eq_not, Bool.not_true, Bool.not_false] at h1
    rw [hF, f_eqS, beq_eq_false_iff_ne, h1]
    exact h
  have not8 : ∀ n : Int, ¬ (ws.length : Int) = n → F .eqI (F .lenD es) n = false := fun n h => by rw [hF, f_eqI, f_lenD, beq_eq_false_iff_ne, hel]; exact h
  refine AKt.need k1 fun _ => AKt.need k0 fun _ => ?_
  refine AKt.node (fun hL => ?_) (fun hL => ?_)
  · have e : w0 = [108, 111, 97, 100] := by simp only [hF, f_ltI, f_leI, f_eqI, f_eqS, f_eqB, f_not, f_andB, f_orB, f_lenS, f_lenD, f_hasS, f_atS, f_hasC, f_subS, f_hasCat, f_app, f_wrap, f_add, f_sub, f_mul, f_appD, f_fits, f_hasV, f_subV, decide_eq_true_eq, decide_eq_false_iff_not, beq_iff_eq, beq_eq_false_iff_ne, Bool.and_eq_true, Bool.and_eq_false_iff, Bool.not_eq_true, Bool.not_eq_false, Bool.not_eq_eq_eq_not, Bool.not_true, Bool.not_false] at hL; exact hL
    have hz : Z = (⟨5, 0, 0, [], [], [], [], [], 0, loadF s⟩, 0) := by rw [hZ, readP, if_neg h0, if_pos (by rw [← hw0]; exact e)]
    repeat' (first | with_reducible refine AKt.have ?_ | with_reducible refine AKt.tt ?_ | with_reducible refine AKt.ff ?_ | with_reducible refine AKt.yes (by assumption) ?_ | with_reducible refine AKt.no (by assumption) ?_ | with_reducible refine AKt.node (fun hb => ?_) (fun hb => ?_) | with_reducible refine AKt.need ?_ (fun hb => ?_) | with_reducible refine AKt.leaf ?_ | ((with_reducible show _ = true); assumption))
    refine AKp.doneL tabOK hfr (by rfl) ?_
    rw [hz, huLoad1]
    exact .tup (.cons (.refl _) (.cons (.refl _) .nil))
  have nL : ¬ w0 = [108, 111, 97, 100] := by simp only [hF, f_ltI, f_leI, f_eqI, f_eqS, f_eqB, f_not, f_andB, f_orB, f_lenS, f_lenD, f_hasS, f_atS, f_hasC, f_subS, f_hasCat, f_app, f_wrap, f_add, f_sub, f_mul, f_appD, f_fits, f_hasV, f_subV, decide_eq_true_eq, decide_eq_false_iff_not, beq_iff_eq, beq_eq_false_iff_ne, Bool.and_eq_true, Bool.and_eq_false_iff, Bool.not_eq_true, Bool.not_eq_false, Bool.not_eq_eq_eq_not, Bool.not_true, Bool.not_false] at hL; exact hL
  refine AKt.need k0 fun _ => ?_
  have bad : ¬ (w0 = [110, 101, 119] ∧ ws.length = 8) → ¬ (w0 = [100, 111, 110, 101] ∧ ws.length = 2) → ¬ (w0 = [100, 114, 111, 112] ∧ ws.length = 2) → ¬ (w0 = [116, 105, 99, 107] ∧ ws.length = 2) → Z = (ev0, 2) := fun g1 g2 g3 g4 => by
    rw [hZ, readP, if_neg h0, ← hw0, if_neg nL, if_neg g1, if_neg g2, if_neg g3, if_neg g4]
  have q1 : ws.length = 2 → uCNumber t1 = true := fun h => by rw [huCNumber, ht1]; exact okS_drop (by omega)
  have lenE : ∀ n : Int, F .eqI (F .lenD es) n = true → (ws.length : Int) = n := fun n h => by simp only [hF, f_ltI, f_leI, f_eqI, f_eqS, f_eqB, f_not, f_andB, f_orB, f_lenS, f_lenD, f_hasS, f_atS, f_hasC, f_subS, f_hasCat, f_app, f_wrap, f_add, f_sub, f_mul, f_appD, f_fits, f_hasV, f_subV, decide_eq_true_eq, decide_eq_false_iff_not, beq_iff_eq, beq_eq_false_iff_ne, Bool.and_eq_true, Bool.and_eq_false_iff, Bool.not_eq_true, Bool.not_eq_false, Bool.not_eq_eq_eq_not, Bool.not_true, Bool.not_false] at h; rw [← hel]; exact h
  have eqw : ∀ b : List UInt8, F .eqS w0 b = true → w0 = b := fun b h => by simp only [hF, f_ltI, f_leI, f_eqI, f_eqS, f_eqB, f_not, f_andB, f_orB, f_lenS, f_lenD, f_hasS, f_atS, f_hasC, f_subS, f_hasCat, f_app, f_wrap, f_add, f_sub, f_mul, f_appD, f_fits, f_hasV, f_subV, decide_eq_true_eq, decide_eq_false_iff_not, beq_iff_eq, beq_eq_false_iff_ne, Bool.and_eq_true, Bool.and_eq_false_iff, Bool.not_eq_true, Bool.not_eq_false, Bool.not_eq_eq_eq_not, Bool.not_true, Bool.not_false] at h; exact h
  have neE : ∀ n : Int, F .not (F .eqI n 0) = true → ¬ n = 0 := fun n h => by simp only [hF, f_ltI, f_leI, f_eqI, f_eqS, f_eqB, f_not, f_andB, f_orB, f_lenS, f_lenD, f_hasS, f_atS, f_hasC, f_subS, f_hasCat, f_app, f_wrap, f_add, f_sub, f_mul, f_appD, f_fits, f_hasV, f_subV, decide_eq_true_eq, decide_eq_false_iff_not, beq_iff_eq, beq_eq_false_iff_ne, Bool.and_eq_true, Bool.and_eq_false_iff, Bool.not_eq_true, Bool.not_eq_false, Bool.not_eq_eq_eq_not, Bool.not_true, Bool.not_false] at h; exact h
  have eqE : ∀ n : Int, F .not (F .eqI n 0) = false → n = 0 := fun n h => by simp only [hF, f_ltI, f_leI, f_eqI, f_eqS, f_eqB, f_not, f_andB, f_orB, f_lenS, f_lenD, f_hasS, f_atS, f_hasC, f_subS, f_hasCat, f_app, f_wrap, f_add, f_sub, f_mul, f_appD, f_fits, f_hasV, f_subV, decide_eq_true_eq, decide_eq_false_iff_not, beq_iff_eq, beq_eq_false_iff_ne, Bool.and_eq_true, Bool.and_eq_false_iff, Bool.not_eq_true, Bool.not_eq_false, Bool.not_eq_eq_eq_not, Bool.not_true, Bool.not_false] at h; exact h
  have orZ : ∀ (v : Ev) (e : Int), Z = orE v e → ¬ e = 0 → Z = (ev0, e) := fun v e h h1 => by rw [h, orE, if_neg h1]
  have orO : ∀ (v : Ev) (e : Int), Z = orE v e → e = 0 → Z = (v, 0) := fun v e h h1 => by rw [h, orE, if_pos h1]
  refine AKt.node (fun hN => ?_) (fun hN => ?_)
  · have e := eqw _ hN
    have d1 := dif _ [100, 111, 110, 101] (by decide) hN
    have d2 := dif _ [100, 114, 111, 112] (by decide) hN
    have d3 := dif _ [116, 105, 99, 107] (by decide) hN
    refine AKt.node (fun h8 => ?_) (fun h8 => ?_)
    · have l8 : ws.length = 8 := by have := lenE _ h8; omega
      have hz : Z = orE (newV ws) E8 := by rw [hZ, readP, if_neg h0, ← hw0, if_neg nL, if_pos ⟨e, l8⟩, hE8]
      have p1 : uCNumber t1 = true := by rw [huCNumber, ht1]; exact okS_drop (by omega)
      have p2 : uCWord t2 = true := by rw [huCWord, ht2]; exact okS_drop (by omega)
      have p3 : uCList t3 = true := by rw [huCList, ht3]; exact okS_drop (by omega)
      have p4 : uCWord t4 = true := by rw [huCWord, ht4]; exact okS_drop (by omega)
      have p5 : uCWord t5 = true := by rw [huCWord, ht5]; exact okS_drop (by omega)
      have p6 : uCWord t6 = true := by rw [huCWord, ht6]; exact okS_drop (by omega)
      have p7 : uCNumber t7 = true := by rw [huCNumber, ht7]; exact okS_drop (by omega)
      repeat' (first | with_reducible refine AKt.have ?_ | with_reducible refine AKt.tt ?_ | with_reducible refine AKt.ff ?_ | with_reducible refine AKt.yes (by assumption) ?_ | with_reducible refine AKt.no (by assumption) ?_ | with_reducible refine AKt.node (fun hb => ?_) (fun hb => ?_) | with_reducible refine AKt.need ?_ (fun hb => ?_) | with_reducible refine AKt.leaf ?_ | ((with_reducible show _ = true); assumption))
      · refine AKp.doneL tabOK hfr (by rfl) ?_
        rw [orZ _ _ hz (neE _ ‹_›)]
        exact lex1
      · refine AKp.doneL tabOK hfr (by rfl) ?_
        rw [orO _ _ hz (eqE _ ‹_›)]
        have hv : (newV ws).dat = .agg [.s (.int .i64 1), .s (.int .i64 (uCNumber1 t1 0 999999999)), .s (.int .i64 0), .s (.str (uCWord1 t2 false)), .view 1 (uCList1 t3), .s (.str (uCWord1 t4 false)), .s (.str (uCWord1 t5 false)), .s (.str (uCWord1 t6 true)), .s (.int .i64 (uCNumber1 t7 0 1048576)), .s (.str [])] := by
          have hls : strDs (unStr (listV (ws.getD 3 []))) = listV (ws.getD 3 []) := by rw [listV, unStr_strDs]
          rw [newV, Ev.dat, hls, huCNumber1, huCWord1, huCList1]
          simp only [ht1, ht2, ht3, ht4, ht5, ht6, ht7, wrdV, wrdB, hdS_drop, Bool.false_and, Bool.true_and, spV, decide_eq_true_eq, Bool.false_eq_true, if_false]
        show LeX _ (.tup [.d (newV ws).dat, .d (.s (.int .i64 0))])
        rw [hv]
        exact .tup (.cons (.refl _) (.cons (.refl _) .nil))
    · have n8 : ¬ ws.length = 8 := fun h => by have := not8 8; rw [h] at this; simp only [hF, f_ltI, f_leI, f_eqI, f_eqS, f_eqB, f_not, f_andB, f_orB, f_lenS, f_lenD, f_hasS, f_atS, f_hasC, f_subS, f_hasCat, f_app, f_wrap, f_add, f_sub, f_mul, f_appD, f_fits, f_hasV, f_subV, decide_eq_true_eq, decide_eq_false_iff_not, beq_iff_eq, beq_eq_false_iff_ne, Bool.and_eq_true, Bool.and_eq_false_iff, Bool.not_eq_true, Bool.not_eq_false, Bool.not_eq_eq_eq_not, Bool.not_true, Bool.not_false] at h8; omega
      have hz := bad (fun h => n8 h.2) (by rw [e]; simp) (by rw [e]; simp) (by rw [e]; simp)
      repeat' (first | with_reducible refine AKt.have ?_ | with_reducible refine AKt.tt ?_ | with_reducible refine AKt.ff ?_ | with_reducible refine AKt.yes (by assumption) ?_ | with_reducible refine AKt.no (by assumption) ?_ | with_reducible refine AKt.node (fun hb => ?_) (fun hb => ?_) | with_reducible refine AKt.need ?_ (fun hb => ?_) | with_reducible refine AKt.leaf ?_ | ((with_reducible show _ = true); assumption))
      refine AKp.doneL tabOK hfr (by rfl) ?_
      rw [hz]
      exact lex1
  have nN : ¬ w0 = [110, 101, 119] := by simp only [hF, f_ltI, f_leI, f_eqI, f_eqS, f_eqB, f_not, f_andB, f_orB, f_lenS, f_lenD, f_hasS, f_atS, f_hasC, f_subS, f_hasCat, f_app, f_wrap, f_add, f_sub, f_mul, f_appD, f_fits, f_hasV, f_subV, decide_eq_true_eq, decide_eq_false_iff_not, beq_iff_eq, beq_eq_false_iff_ne, Bool.and_eq_true, Bool.and_eq_false_iff, Bool.not_eq_true, Bool.not_eq_false, Bool.not_eq_eq_eq_not, Bool.not_true, Bool.not_false] at hN; exact hN
  refine AKt.need k0 fun _ => ?_
  refine AKt.node (fun hD => ?_) (fun hD => ?_)
  · have e := eqw _ hD
    have d2 := dif _ [100, 114, 111, 112] (by decide) hD
    have d3 := dif _ [116, 105, 99, 107] (by decide) hD
    refine AKt.node (fun h2 => ?_) (fun h2 => ?_)
    · have l2 : ws.length = 2 := by have := lenE _ h2; omega
      have p1 := q1 l2
      have e1 : uCNumber3 t1 0 0 999999999 = eN (ws.getD 1 []) 0 999999999 0 := by rw [huCNumber3, ht1, numE, hdS_drop]; rfl
      have v1 : uCNumber1 t1 0 999999999 = numV (ws.getD 1 []) 0 999999999 := by rw [huCNumber1, ht1]; show numV (hdS _) _ _ = _; rw [hdS_drop]
      obtain ⟨E1, hE1⟩ : ∃ z, z = eN (ws.getD 1 []) 0 999999999 0 := ⟨_, rfl⟩
      have hz : Z = orE ⟨2, numV (ws.getD 1 []) 0 999999999, 0, [], [], [], [], [], 0, []⟩ E1 := by rw [hZ, readP, if_neg h0, ← hw0, if_neg nL, if_neg (fun h => nN h.1), if_pos ⟨e, l2⟩, hE1]
      rw [← hE1] at e1
      rw [e1]
      repeat' (first | with_reducible refine AKt.have ?_ | with_reducible refine AKt.tt ?_ | with_reducible refine AKt.ff ?_ | with_reducible refine AKt.yes (by assumption) ?_ | with_reducible refine AKt.no (by assumption) ?_ | with_reducible refine AKt.node (fun hb => ?_) (fun hb => ?_) | with_reducible refine AKt.need ?_ (fun hb => ?_) | with_reducible refine AKt.leaf ?_ | ((with_reducible show _ = true); assumption))
      · refine AKp.doneL tabOK hfr (by rfl) ?_
        rw [orZ _ _ hz (neE _ ‹_›)]
        exact lex1
      · refine AKp.doneL tabOK hfr (by rfl) ?_
        rw [orO _ _ hz (eqE _ ‹_›), v1]
        exact .tup (.cons (.d (.agg (by repeat' first | exact .nil _ | exact .refl _ | exact .nil | refine .cons ?_ ?_))) (.cons (.refl _) .nil))
    · have n2 : ¬ ws.length = 2 := fun h => by have := not8 2; rw [h] at this; simp only [hF, f_ltI, f_leI, f_eqI, f_eqS, f_eqB, f_not, f_andB, f_orB, f_lenS, f_lenD, f_hasS, f_atS, f_hasC, f_subS, f_hasCat, f_app, f_wrap, f_add, f_sub, f_mul, f_appD, f_fits, f_hasV, f_subV, decide_eq_true_eq, decide_eq_false_iff_not, beq_iff_eq, beq_eq_false_iff_ne, Bool.and_eq_true, Bool.and_eq_false_iff, Bool.not_eq_true, Bool.not_eq_false, Bool.not_eq_eq_eq_not, Bool.not_true, Bool.not_false] at h2; omega
      have hz := bad (by rw [e]; simp) (fun h => n2 h.2) (fun h => n2 h.2) (fun h => n2 h.2)
      repeat' (first | with_reducible refine AKt.have ?_ | with_reducible refine AKt.tt ?_ | with_reducible refine AKt.ff ?_ | with_reducible refine AKt.yes (by assumption) ?_ | with_reducible refine AKt.no (by assumption) ?_ | with_reducible refine AKt.node (fun hb => ?_) (fun hb => ?_) | with_reducible refine AKt.need ?_ (fun hb => ?_) | with_reducible refine AKt.leaf ?_ | ((with_reducible show _ = true); assumption))
      refine AKp.doneL tabOK hfr (by rfl) ?_
      rw [hz]
      exact lex1
  have nD : ¬ w0 = [100, 111, 110, 101] := by simp only [hF, f_ltI, f_leI, f_eqI, f_eqS, f_eqB, f_not, f_andB, f_orB, f_lenS, f_lenD, f_hasS, f_atS, f_hasC, f_subS, f_hasCat, f_app, f_wrap, f_add, f_sub, f_mul, f_appD, f_fits, f_hasV, f_subV, decide_eq_true_eq, decide_eq_false_iff_not, beq_iff_eq, beq_eq_false_iff_ne, Bool.and_eq_true, Bool.and_eq_false_iff, Bool.not_eq_true, Bool.not_eq_false, Bool.not_eq_eq_eq_not, Bool.not_true, Bool.not_false] at hD; exact hD
  refine AKt.need k0 fun _ => ?_
  refine AKt.node (fun hD => ?_) (fun hD => ?_)
  · have e := eqw _ hD
    have d3 := dif _ [116, 105, 99, 107] (by decide) hD
    refine AKt.node (fun h2 => ?_) (fun h2 => ?_)
    · have l2 : ws.length = 2 := by have := lenE _ h2; omega
      have p1 := q1 l2
      have e1 : uCNumber3 t1 0 0 999999999 = eN (ws.getD 1 []) 0 999999999 0 := by rw [huCNumber3, ht1, numE, hdS_drop]; rfl
      have v1 : uCNumber1 t1 0 999999999 = numV (ws.getD 1 []) 0 999999999 := by rw [huCNumber1, ht1]; show numV (hdS _) _ _ = _; rw [hdS_drop]
      obtain ⟨E1, hE1⟩ : ∃ z, z = eN (ws.getD 1 []) 0 999999999 0 := ⟨_, rfl⟩
      have hz : Z = orE ⟨3, numV (ws.getD 1 []) 0 999999999, 0, [], [], [], [], [], 0, []⟩ E1 := by rw [hZ, readP, if_neg h0, ← hw0, if_neg nL, if_neg (fun h => nN h.1), if_neg (fun h => nD h.1), if_pos ⟨e, l2⟩, hE1]
      rw [← hE1] at e1
      rw [e1]
      repeat' (first | with_reducible refine AKt.have ?_ | with_reducible refine AKt.tt ?_ | with_reducible refine AKt.ff ?_ | with_reducible refine AKt.yes (by assumption) ?_ | with_reducible refine AKt.no (by assumption) ?_ | with_reducible refine AKt.node (fun hb => ?_) (fun hb => ?_) | with_reducible refine AKt.need ?_ (fun hb => ?_) | with_reducible refine AKt.leaf ?_ | ((with_reducible show _ = true); assumption))
      · refine AKp.doneL tabOK hfr (by rfl) ?_
        rw [orZ _ _ hz (neE _ ‹_›)]
        exact lex1
      · refine AKp.doneL tabOK hfr (by rfl) ?_
        rw [orO _ _ hz (eqE _ ‹_›), v1]
        exact .tup (.cons (.d (.agg (by repeat' first | exact .nil _ | exact .refl _ | exact .nil | refine .cons ?_ ?_))) (.cons (.refl _) .nil))
    · have n2 : ¬ ws.length = 2 := fun h => by have := not8 2; rw [h] at this; simp only [hF, f_ltI, f_leI, f_eqI, f_eqS, f_eqB, f_not, f_andB, f_orB, f_lenS, f_lenD, f_hasS, f_atS, f_hasC, f_subS, f_hasCat, f_app, f_wrap, f_add, f_sub, f_mul, f_appD, f_fits, f_hasV, f_subV, decide_eq_true_eq, decide_eq_false_iff_not, beq_iff_eq, beq_eq_false_iff_ne, Bool.and_eq_true, Bool.and_eq_false_iff, Bool.not_eq_true, Bool.not_eq_false, Bool.not_eq_eq_eq_not, Bool.not_true, Bool.not_false] at h2; omega
      have hz := bad (by rw [e]; simp) (fun h => n2 h.2) (fun h => n2 h.2) (fun h => n2 h.2)
      repeat' (first | with_reducible refine AKt.have ?_ | with_reducible refine AKt.tt ?_ | with_reducible refine AKt.ff ?_ | with_reducible refine AKt.yes (by assumption) ?_ | with_reducible refine AKt.no (by assumption) ?_ | with_reducible refine AKt.node (fun hb => ?_) (fun hb => ?_) | with_reducible refine AKt.need ?_ (fun hb => ?_) | with_reducible refine AKt.leaf ?_ | ((with_reducible show _ = true); assumption))
      refine AKp.doneL tabOK hfr (by rfl) ?_
      rw [hz]
      exact lex1
  have nR : ¬ w0 = [100, 114, 111, 112] := by simp only [hF, f_ltI, f_leI, f_eqI, f_eqS, f_eqB, f_not, f_andB, f_orB, f_lenS, f_lenD, f_hasS, f_atS, f_hasC, f_subS, f_hasCat, f_app, f_wrap, f_add, f_sub, f_mul, f_appD, f_fits, f_hasV, f_subV, decide_eq_true_eq, decide_eq_false_iff_not, beq_iff_eq, beq_eq_false_iff_ne, Bool.and_eq_true, Bool.and_eq_false_iff, Bool.not_eq_true, Bool.not_eq_false, Bool.not_eq_eq_eq_not, Bool.not_true, Bool.not_false] at hD; exact hD
  refine AKt.need k0 fun _ => ?_
  refine AKt.node (fun hD => ?_) (fun hD => ?_)
  · have e := eqw _ hD
    refine AKt.node (fun h2 => ?_) (fun h2 => ?_)
    · have l2 : ws.length = 2 := by have := lenE _ h2; omega
      have p1 := q1 l2
      have e1 : uCNumber3 t1 0 1 1000 = eN (ws.getD 1 []) 1 1000 0 := by rw [huCNumber3, ht1, numE, hdS_drop]; rfl
      have v1 : uCNumber1 t1 1 1000 = numV (ws.getD 1 []) 1 1000 := by rw [huCNumber1, ht1]; show numV (hdS _) _ _ = _; rw [hdS_drop]
      obtain ⟨E1, hE1⟩ : ∃ z, z = eN (ws.getD 1 []) 1 1000 0 := ⟨_, rfl⟩
      have hz : Z = orE ⟨4, 0, numV (ws.getD 1 []) 1 1000, [], [], [], [], [], 0, []⟩ E1 := by rw [hZ, readP, if_neg h0, ← hw0, if_neg nL, if_neg (fun h => nN h.1), if_neg (fun h => nD h.1), if_neg (fun h => nR h.1), if_pos ⟨e, l2⟩, hE1]
      rw [← hE1] at e1
      rw [e1]
      repeat' (first | with_reducible refine AKt.have ?_ | with_reducible refine AKt.tt ?_ | with_reducible refine AKt.ff ?_ | with_reducible refine AKt.yes (by assumption) ?_ | with_reducible refine AKt.no (by assumption) ?_ | with_reducible refine AKt.node (fun hb => ?_) (fun hb => ?_) | with_reducible refine AKt.need ?_ (fun hb => ?_) | with_reducible refine AKt.leaf ?_ | ((with_reducible show _ = true); assumption))
      · refine AKp.doneL tabOK hfr (by rfl) ?_
        rw [orZ _ _ hz (neE _ ‹_›)]
        exact lex1
      · refine AKp.doneL tabOK hfr (by rfl) ?_
        rw [orO _ _ hz (eqE _ ‹_›), v1]
        exact .tup (.cons (.d (.agg (by repeat' first | exact .nil _ | exact .refl _ | exact .nil | refine .cons ?_ ?_))) (.cons (.refl _) .nil))
    · have n2 : ¬ ws.length = 2 := fun h => by have := not8 2; rw [h] at this; simp only [hF, f_ltI, f_leI, f_eqI, f_eqS, f_eqB, f_not, f_andB, f_orB, f_lenS, f_lenD, f_hasS, f_atS, f_hasC, f_subS, f_hasCat, f_app, f_wrap, f_add, f_sub, f_mul, f_appD, f_fits, f_hasV, f_subV, decide_eq_true_eq, decide_eq_false_iff_not, beq_iff_eq, beq_eq_false_iff_ne, Bool.and_eq_true, Bool.and_eq_false_iff, Bool.not_eq_true, Bool.not_eq_false, Bool.not_eq_eq_eq_not, Bool.not_true, Bool.not_false] at h2; omega
      have hz := bad (by rw [e]; simp) (fun h => n2 h.2) (fun h => n2 h.2) (fun h => n2 h.2)
      repeat' (first | with_reducible refine AKt.have ?_ | with_reducible refine AKt.tt ?_ | with_reducible refine AKt.ff ?_ | with_reducible refine AKt.yes (by assumption) ?_ | with_reducible refine AKt.no (by assumption) ?_ | with_reducible refine AKt.node (fun hb => ?_) (fun hb => ?_) | with_reducible refine AKt.need ?_ (fun hb => ?_) | with_reducible refine AKt.leaf ?_ | ((with_reducible show _ = true); assumption))
      refine AKp.doneL tabOK hfr (by rfl) ?_
      rw [hz]
      exact lex1
  have nT : ¬ w0 = [116, 105, 99, 107] := by simp only [hF, f_ltI, f_leI, f_eqI, f_eqS, f_eqB, f_not, f_andB, f_orB, f_lenS, f_lenD, f_hasS, f_atS, f_hasC, f_subS, f_hasCat, f_app, f_wrap, f_add, f_sub, f_mul, f_appD, f_fits, f_hasV, f_subV, decide_eq_true_eq, decide_eq_false_iff_not, beq_iff_eq, beq_eq_false_iff_ne, Bool.and_eq_true, Bool.and_eq_false_iff, Bool.not_eq_true, Bool.not_eq_false, Bool.not_eq_eq_eq_not, Bool.not_true, Bool.not_false] at hD; exact hD
  have hz := bad (fun h => nN h.1) (fun h => nD h.1) (fun h => nR h.1) (fun h => nT h.1)
  repeat' (first | with_reducible refine AKt.have ?_ | with_reducible refine AKt.tt ?_ | with_reducible refine AKt.ff ?_ | with_reducible refine AKt.yes (by assumption) ?_ | with_reducible refine AKt.no (by assumption) ?_ | with_reducible refine AKt.node (fun hb => ?_) (fun hb => ?_) | with_reducible refine AKt.need ?_ (fun hb => ?_) | with_reducible refine AKt.leaf ?_ | ((with_reducible show _ = true); assumption))
  refine AKp.doneL tabOK hfr (by rfl) ?_
  rw [hz]
  exact lex1
def φRead (p : List UInt8 → Bool) (uk ui un : List UInt8 → Int) (uu : List UInt8 → List UInt8) (ug : List UInt8 → List Dat) (uv ur us : List UInt8 → List UInt8) (uo : List UInt8 → Int) (ut : List UInt8 → List UInt8) (ue : List UInt8 → Int) : List AV → Option (Bool × AV)
  | [.d (.s (.str s))] => some (p s, .tup [.d (.agg [.s (.int .i64 (uk s)), .s (.int .i64 (ui s)), .s (.int .i64 (un s)), .s (.str (uu s)), .view 1 (ug s), .s (.str (uv s)), .s (.str (ur s)), .s (.str (us s)), .s (.int .i64 (uo s)), .s (.str (ut s))]), .d (.s (.int .i64 (ue s)))])
  | _ => none
theorem φRead_ok : SpOK Tryd.prog 9 (φRead (leL) (fun s => (readV s).k) (fun s => (readV s).id) (fun s => (readV s).n) (fun s => (readV s).us) (fun s => strDs (readV s).gs) (fun s => (readV s).vb) (fun s => (readV s).rs) (fun s => (readV s).sp) (fun s => (readV s).ob) (fun s => (readV s).tx) (readE)) := by
  intro xs b x h hb
  unfold φRead at h
  split at h
  · simp only [Option.some.injEq, Prod.mk.injEq] at h
    obtain ⟨rfl, rfl⟩ := h
    exact Read_spec _ hb
  · cases h
end Go.Proofs.YtmhkmoeailamlaaDoor

/- The line of an event. -/
namespace Go.Proofs.YtmhkmoeailamlaaDoor
open Go Go.Proofs Go.Ua Go.Extern
set_option linter.unusedVariables false
set_option linter.unusedSimpArgs false
set_option maxRecDepth 10000

def digI (n : Int) : List UInt8 := Lib.decDigits n.toNat
theorem digI_len {n : Int} (h : n ≤ 9223372036854775807) : (digI n).length ≤ 21 := decDigits_le _ (by omega)
theorem joinF_len (l : List (List UInt8)) : (joinF l).length ≤ 520 := by
  unfold joinF
  split
  · rename_i h
    split
    · decide
    · obtain ⟨h1, h2⟩ := good_le h
      have := join_le _ h2
      omega
  · exact Nat.zero_le _
def space (sp : List UInt8) : List UInt8 := if sp = [] then [45] else sp
def lineW (id : Int) (us : List UInt8) (gs : List (List UInt8)) (vb rs sp : List UInt8) (ob : Int) : List (List UInt8) := [[110, 101, 119], digI id, us, joinF gs, vb, rs, space sp, digI ob]
def lineF (k id n : Int) (us : List UInt8) (gs : List (List UInt8)) (vb rs sp : List UInt8) (ob : Int) (tx : List UInt8) : List UInt8 :=
  if k = 1 then Lib.join (lineW id us gs vb rs sp ob) [32]
  else if k = 2 then [100, 111, 110, 101, 32] ++ digI id
  else if k = 3 then [100, 114, 111, 112, 32] ++ digI id
  else if k = 4 then [116, 105, 99, 107, 32] ++ digI n
  else if tx = [] then [108, 111, 97, 100]
  else [108, 111, 97, 100, 32] ++ Lib.replaceAll tx [10] [59]
def w2 (s : List UInt8) : Bool := decide (s.length ≤ 20000)
def lineP (us : List UInt8) (gs : List Dat) (vb rs sp tx : List UInt8) : Bool := isStrs gs && (w2 us && (w2 vb && (w2 rs && (w2 sp && w2 tx))))

set_option maxHeartbeats 1000000 in
theorem line_spec (k id n : Int) (us : List UInt8) (gs : List Dat) (vb rs sp : List UInt8) (ob : Int) (tx : List UInt8) (h : lineP us gs vb rs sp tx = true) :
    ESpec Tryd.prog 26 [.d (.agg [.s (.int .i64 k), .s (.int .i64 id), .s (.int .i64 n), .s (.str us), .view 1 gs, .s (.str vb), .s (.str rs), .s (.str sp), .s (.int .i64 ob), .s (.str tx)])]
      (fun x => x = .d (.s (.str (lineF k id n us (unStr gs) vb rs sp ob tx)))) := by
  obtain ⟨uDigits, huDigits⟩ : ∃ u : Int → List UInt8, u = fun n => Lib.decDigits n.toNat := ⟨_, rfl⟩
  obtain ⟨uJoin, huJoin⟩ : ∃ u : List Dat → Bool, u = isStrs := ⟨_, rfl⟩
  obtain ⟨uJoin1, huJoin1⟩ : ∃ u : List Dat → List UInt8, u = fun l => joinF (unStr l) := ⟨_, rfl⟩
  obtain ⟨uSJoin, huSJoin⟩ : ∃ u : List Dat → List UInt8 → Bool, u = joinP := ⟨_, rfl⟩
  obtain ⟨uSJoin1, huSJoin1⟩ : ∃ u : List Dat → List UInt8 → List UInt8, u = fun l s => Lib.join (unStr l) s := ⟨_, rfl⟩
  obtain ⟨uSReplace, huSReplace⟩ : ∃ u : List UInt8 → List UInt8 → List UInt8 → Bool, u = repP := ⟨_, rfl⟩
  obtain ⟨uSReplace1, huSReplace1⟩ : ∃ u : List UInt8 → List UInt8 → List UInt8 → List UInt8, u = Lib.replaceAll := ⟨_, rfl⟩
  have hG : TblOK Tryd.prog [(46, .p (φDigits uDigits)), (47, .p (φJoin uJoin uJoin1)), (45, .p (φSJoin uSJoin uSJoin1)), (38, .p (φSReplace uSReplace uSReplace1))] := ⟨(by rw [huDigits]; exact φDigits_ok), (by rw [huJoin, huJoin1]; exact φJoin_ok), (by rw [huSJoin, huSJoin1]; exact φSJoin_ok), (by rw [huSReplace, huSReplace1]; exact φSReplace_ok), trivial⟩
  simp only [lineP, Bool.and_eq_true, w2, decide_eq_true_eq] at h
  obtain ⟨hg, l1, l2, l3, l4, l5⟩ := h
  obtain ⟨Z, hZ⟩ : ∃ z, z = lineF k id n us (unStr gs) vb rs sp ob tx := ⟨_, rfl⟩
  rw [← hZ]
  have qj : uJoin gs = true := by subst huDigits huJoin huJoin1 huSJoin huSJoin1 huSReplace huSReplace1; exact hg
  refine ESpec.enter Tryd.func26 (by kernel_rfl) rfl (Nat.le_of_ble_eq_true rfl) fun hok cx hnt hfr => ?_
  obtain ⟨F, hF⟩ := real_ex
  refine AK.runT hF tabOK hmix hnt hfr true _ hG ?_
  conv => arg 4; cbv
  have o2 : id ≤ 9223372036854775807 := hok.1.2.1.2
  have o3 : n ≤ 9223372036854775807 := hok.1.2.2.1.2
  have o9 : ob ≤ 9223372036854775807 := hok.1.2.2.2.2.2.2.2.2.1.2
  have d2 := digI_len o2
  have d3 := digI_len o3
  have d9 := digI_len o9
  have ei : uDigits id = digI id := by subst huDigits huJoin huJoin1 huSJoin huSJoin1 huSReplace huSReplace1; rfl
  have en : uDigits n = digI n := by subst huDigits huJoin huJoin1 huSJoin huSJoin1 huSReplace huSReplace1; rfl
  have eo : uDigits ob = digI ob := by subst huDigits huJoin huJoin1 huSJoin huSJoin1 huSReplace huSReplace1; rfl
  have ej : uJoin1 gs = joinF (unStr gs) := by subst huDigits huJoin huJoin1 huSJoin huSJoin1 huSReplace huSReplace1; rfl
  have hj := joinF_len (unStr gs)
  have qs : ∀ s' : List UInt8, s'.length ≤ 20000 → uSJoin [.s (.str [110, 101, 119]), .s (.str (uDigits id)), .s (.str us), .s (.str (uJoin1 gs)), .s (.str vb), .s (.str rs), .s (.str s'), .s (.str (uDigits ob))] [32] = true ∧
      uSJoin1 [.s (.str [110, 101, 119]), .s (.str (uDigits id)), .s (.str us), .s (.str (uJoin1 gs)), .s (.str vb), .s (.str rs), .s (.str s'), .s (.str (uDigits ob))] [32] = Lib.join [[110, 101, 119], digI id, us, joinF (unStr gs), vb, rs, s', digI ob] [32] := by
    intro s' hs'
    rw [ei, eo, ej, huSJoin, huSJoin1]
    refine ⟨?_, rfl⟩
    refine joinP_of (ws := [[110, 101, 119], digI id, us, joinF (unStr gs), vb, rs, s', digI ob]) (n := 20000) (by simp) ?_ (by decide)
    intro x hx
    simp only [List.mem_cons, List.not_mem_nil, or_false] at hx
    rcases hx with rfl | rfl | rfl | rfl | rfl | rfl | rfl | rfl
    · decide
    all_goals omega
  obtain ⟨qa, qb⟩ := qs [45] (by decide)
  obtain ⟨qc, qd⟩ := qs sp l4
  have qr : uSReplace tx [10] [59] = true := by
    rw [huSReplace, repP, leL, decide_eq_true (show tx.length ≤ 1000000 by omega)]
    rfl
  have er : uSReplace1 tx [10] [59] = Lib.replaceAll tx [10] [59] := by rw [huSReplace1]
  have hr : (Lib.replaceAll tx [10] [59]).length ≤ 20000 := by rw [replace_map (by decide)]; simpa using l5
  rw [ei] at qa qc
  rw [qb, qd, ei, en, er]
  have hcat : ∀ x y : List UInt8, x.length + y.length ≤ 100000 → F .hasCat x y = true := fun x y h => t_hasCat hF (by omega)
  repeat' (first | with_reducible refine AKt.have ?_ | with_reducible refine AKt.tt ?_ | with_reducible refine AKt.ff ?_ | with_reducible refine AKt.yes (by assumption) ?_ | with_reducible refine AKt.no (by assumption) ?_ | with_reducible refine AKt.node (fun hb => ?_) (fun hb => ?_) | with_reducible refine AKt.need ?_ (fun hb => ?_) | with_reducible refine AKt.leaf ?_ | ((with_reducible show _ = true); assumption))
  all_goals first
    | exact hcat _ _ (by simp; omega)
    | (refine AKp.doneE tabOK hfr (by rfl) ?_
       show _ = _
       simp only [tupAV]
       rw [hZ]
       clear hcat qs qa qb qc qd qr er hr hj ej ei en eo d2 d3 d9 o2 o3 o9 hok hG hZ qj l1 l2 l3 l4 l5 huDigits huJoin huJoin1 huSJoin huSJoin1 huSReplace huSReplace1
       simp only [hF, f_ltI, f_leI, f_eqI, f_eqS, f_eqB, f_not, f_andB, f_orB, f_lenS, f_lenD, f_hasS, f_atS, f_hasC, f_subS, f_hasCat, f_app, f_wrap, f_add, f_sub, f_mul, f_appD, f_fits, f_hasV, f_subV, decide_eq_true_eq, decide_eq_false_iff_not, beq_iff_eq, beq_eq_false_iff_ne, Bool.and_eq_true, Bool.and_eq_false_iff, Bool.not_eq_true, Bool.not_eq_false, Bool.not_eq_eq_eq_not, Bool.not_true, Bool.not_false] at *
       simp [lineF, lineW, space, *])
def φLine (p : List UInt8 → List Dat → List UInt8 → List UInt8 → List UInt8 → List UInt8 → Bool) (u : Int → Int → Int → List UInt8 → List Dat → List UInt8 → List UInt8 → List UInt8 → Int → List UInt8 → List UInt8) : List AV → Option (Bool × AV)
  | [.d (.agg [.s (.int .i64 k), .s (.int .i64 id), .s (.int .i64 n), .s (.str us), .view 1 gs, .s (.str vb), .s (.str rs), .s (.str sp), .s (.int .i64 ob), .s (.str tx)])] => some (p us gs vb rs sp tx, .d (.s (.str (u k id n us gs vb rs sp ob tx))))
  | _ => none
theorem φLine_ok : SpOK Tryd.prog 26 (φLine (fun us gs vb rs sp tx => lineP us gs vb rs sp tx) (fun k id n us gs vb rs sp ob tx => lineF k id n us (unStr gs) vb rs sp ob tx)) := by
  intro xs b x h hb
  unfold φLine at h
  split at h
  · simp only [Option.some.injEq, Prod.mk.injEq] at h
    obtain ⟨rfl, rfl⟩ := h
    exact line_spec _ _ _ _ _ _ _ _ _ _ hb
  · cases h

/-- The same, as the program sees it; as the reference sees it. -/
def sameF (k id n : Int) (us : List UInt8) (gs : List (List UInt8)) (vb rs sp : List UInt8) (ob : Int) (tx : List UInt8) (k' id' n' : Int) (us' : List UInt8) (gs' : List (List UInt8)) (vb' rs' sp' : List UInt8) (ob' : Int) (tx' : List UInt8) : Bool :=
  decide (k = k') && (decide (id = id') && (decide (n = n') && (decide (tx = tx') && (decide (us = us') && (decide (joinF gs = joinF gs') && (decide (vb = vb') && (decide (rs = rs') && (decide (sp = sp') && decide (ob = ob')))))))))
set_option maxHeartbeats 1000000 in
set_option cbv.maxSteps 10000000 in
theorem same_spec (k id n : Int) (us : List UInt8) (gs : List Dat) (vb rs sp : List UInt8) (ob : Int) (tx : List UInt8) (k' id' n' : Int) (us' : List UInt8) (gs' : List Dat) (vb' rs' sp' : List UInt8) (ob' : Int) (tx' : List UInt8) (hg : isStrs gs = true) (hg' : isStrs gs' = true) :
    ESpec Tryd.prog 27 [.d (.agg [.s (.int .i64 k), .s (.int .i64 id), .s (.int .i64 n), .s (.str us), .view 1 gs, .s (.str vb), .s (.str rs), .s (.str sp), .s (.int .i64 ob), .s (.str tx)]), .d (.agg [.s (.int .i64 k'), .s (.int .i64 id'), .s (.int .i64 n'), .s (.str us'), .view 1 gs', .s (.str vb'), .s (.str rs'), .s (.str sp'), .s (.int .i64 ob'), .s (.str tx')])]
      (fun x => x = .d (.s (.bool (sameF k id n us (unStr gs) vb rs sp ob tx k' id' n' us' (unStr gs') vb' rs' sp' ob' tx')))) := by
  obtain ⟨uJoin, huJoin⟩ : ∃ u : List Dat → Bool, u = isStrs := ⟨_, rfl⟩
  obtain ⟨uJoin1, huJoin1⟩ : ∃ u : List Dat → List UInt8, u = fun l => joinF (unStr l) := ⟨_, rfl⟩
  have hG : TblOK Tryd.prog [(47, .p (φJoin uJoin uJoin1))] := ⟨(by rw [huJoin, huJoin1]; exact φJoin_ok), trivial⟩
  obtain ⟨Z, hZ⟩ : ∃ z, z = sameF k id n us (unStr gs) vb rs sp ob tx k' id' n' us' (unStr gs') vb' rs' sp' ob' tx' := ⟨_, rfl⟩
  rw [← hZ]
  have qj : uJoin gs = true := by subst huJoin huJoin1; exact hg
  have qj' : uJoin gs' = true := by subst huJoin huJoin1; exact hg'
  refine ESpec.enter Tryd.func27 (by kernel_rfl) rfl (Nat.le_of_ble_eq_true rfl) fun hok cx hnt hfr => ?_
  obtain ⟨F, hF⟩ := real_ex
  refine AK.runT hF tabOK hmix hnt hfr true _ hG ?_
  conv => arg 4; cbv
  have ej : uJoin1 gs = joinF (unStr gs) := by subst huJoin huJoin1; rfl
  have ej' : uJoin1 gs' = joinF (unStr gs') := by subst huJoin huJoin1; rfl
  rw [ej, ej']
  repeat' (first | with_reducible refine AKt.have ?_ | with_reducible refine AKt.tt ?_ | with_reducible refine AKt.ff ?_ | with_reducible refine AKt.yes (by assumption) ?_ | with_reducible refine AKt.no (by assumption) ?_ | with_reducible refine AKt.node (fun hb => ?_) (fun hb => ?_) | with_reducible refine AKt.need ?_ (fun hb => ?_) | with_reducible refine AKt.leaf ?_ | ((with_reducible show _ = true); assumption))
  all_goals
    refine AKp.doneE tabOK hfr (by rfl) ?_
    show _ = _
    simp only [tupAV]
    rw [hZ]
    clear hZ hok hG qj qj' ej ej' huJoin huJoin1 hg hg'
    simp only [hF, f_ltI, f_leI, f_eqI, f_eqS, f_eqB, f_not, f_andB, f_orB, f_lenS, f_lenD, f_hasS, f_atS, f_hasC, f_subS, f_hasCat, f_app, f_wrap, f_add, f_sub, f_mul, f_appD, f_fits, f_hasV, f_subV, decide_eq_true_eq, decide_eq_false_iff_not, beq_iff_eq, beq_eq_false_iff_ne, Bool.and_eq_true, Bool.and_eq_false_iff, Bool.not_eq_true, Bool.not_eq_false, Bool.not_eq_eq_eq_not, Bool.not_true, Bool.not_false] at *
    first
      | (simp [sameF, *]; done)
      | (rw [show ∀ a b : Int, (a == b) = decide (a = b) from fun a b => rfl]; simp [sameF, *])
def φEvSame (p : List Dat → List Dat → Bool) (q : Int → Int → Int → List UInt8 → List Dat → List UInt8 → List UInt8 → List UInt8 → Int → List UInt8 → Int → Int → Int → List UInt8 → List Dat → List UInt8 → List UInt8 → List UInt8 → Int → List UInt8 → Bool) : List AV → Option (Bool × AV)
  | [.d (.agg [.s (.int .i64 k), .s (.int .i64 id), .s (.int .i64 n), .s (.str us), .view 1 gs, .s (.str vb), .s (.str rs), .s (.str sp), .s (.int .i64 ob), .s (.str tx)]), .d (.agg [.s (.int .i64 k'), .s (.int .i64 id'), .s (.int .i64 n'), .s (.str us'), .view 1 gs', .s (.str vb'), .s (.str rs'), .s (.str sp'), .s (.int .i64 ob'), .s (.str tx')])] => some (p gs gs', .d (.s (.bool (q k id n us gs vb rs sp ob tx k' id' n' us' gs' vb' rs' sp' ob' tx'))))
  | _ => none
theorem φEvSame_ok : SpOK Tryd.prog 27 (φEvSame (fun l m => isStrs l && isStrs m) (fun k id n us gs vb rs sp ob tx k' id' n' us' gs' vb' rs' sp' ob' tx' => sameF k id n us (unStr gs) vb rs sp ob tx k' id' n' us' (unStr gs') vb' rs' sp' ob' tx')) := by
  intro xs b x h hb
  unfold φEvSame at h
  split at h
  · simp only [Option.some.injEq, Prod.mk.injEq] at h
    obtain ⟨rfl, rfl⟩ := h
    simp only [Bool.and_eq_true] at hb; exact same_spec _ _ _ _ _ _ _ _ _ _ _ _ _ _ _ _ _ _ _ _ hb.1 hb.2
  · cases h
end Go.Proofs.YtmhkmoeailamlaaDoor

/- An event is written. -/
namespace Go.Proofs.YtmhkmoeailamlaaDoor
open Go Go.Proofs Go.Ua Go.Extern
set_option linter.unusedVariables false
set_option linter.unusedSimpArgs false
set_option maxRecDepth 10000

def Ev.line (e : Ev) : List UInt8 := lineF e.k e.id e.n e.us e.gs e.vb e.rs e.sp e.ob e.tx
def Ev.same (e f : Ev) : Bool := sameF e.k e.id e.n e.us e.gs e.vb e.rs e.sp e.ob e.tx f.k f.id f.n f.us f.gs f.vb f.rs f.sp f.ob f.tx
def okW (e : Ev) : Bool := decide (readE e.line = 0) && e.same (readV e.line)
def writeS (e : Ev) : List UInt8 := if okW e = true then e.line else []
def writeE (e : Ev) : Int := if okW e = true then 0 else 2
theorem line_len {k id n : Int} {us : List UInt8} {gs : List (List UInt8)} {vb rs sp : List UInt8} {ob : Int} {tx : List UInt8} (o2 : id ≤ 9223372036854775807) (o3 : n ≤ 9223372036854775807) (o9 : ob ≤ 9223372036854775807)
    (l1 : us.length ≤ 20000) (l2 : vb.length ≤ 20000) (l3 : rs.length ≤ 20000) (l4 : sp.length ≤ 20000) (l5 : tx.length ≤ 20000) : (lineF k id n us gs vb rs sp ob tx).length ≤ 1000000 := by
  have d2 := digI_len o2
  have d3 := digI_len o3
  have d9 := digI_len o9
  have hj := joinF_len gs
  have hr : (Lib.replaceAll tx [10] [59]).length ≤ 20000 := by rw [replace_map (by decide)]; simpa using l5
  have hs : (space sp).length ≤ 20000 := by unfold space; split
                                            · decide
                                            · exact l4
  unfold lineF
  split
  · have := join32_len (n := 20000) (ws := lineW id us gs vb rs sp ob) (by
      intro x hx
      simp only [lineW, List.mem_cons, List.not_mem_nil, or_false] at hx
      rcases hx with rfl | rfl | rfl | rfl | rfl | rfl | rfl | rfl
      · decide
      all_goals omega)
    refine Nat.le_trans this ?_
    simp [lineW]
  repeat' split
  all_goals simp; try omega

set_option maxHeartbeats 1000000 in
set_option cbv.maxSteps 10000000 in
theorem Write_spec (k id n : Int) (us : List UInt8) (gs : List Dat) (vb rs sp : List UInt8) (ob : Int) (tx : List UInt8) (h : lineP us gs vb rs sp tx = true) :
    ESpec Tryd.prog 13 [.d (.agg [.s (.int .i64 k), .s (.int .i64 id), .s (.int .i64 n), .s (.str us), .view 1 gs, .s (.str vb), .s (.str rs), .s (.str sp), .s (.int .i64 ob), .s (.str tx)])]
      (fun x => x = .tup [.d (.s (.str (writeS ⟨k, id, n, us, unStr gs, vb, rs, sp, ob, tx⟩))), .d (.s (.int .i64 (writeE ⟨k, id, n, us, unStr gs, vb, rs, sp, ob, tx⟩)))]) := by
  obtain ⟨uLine, huLine⟩ : ∃ u : List UInt8 → List Dat → List UInt8 → List UInt8 → List UInt8 → List UInt8 → Bool, u = fun us gs vb rs sp tx => lineP us gs vb rs sp tx := ⟨_, rfl⟩
  obtain ⟨uLine1, huLine1⟩ : ∃ u : Int → Int → Int → List UInt8 → List Dat → List UInt8 → List UInt8 → List UInt8 → Int → List UInt8 → List UInt8, u = fun k id n us gs vb rs sp ob tx => lineF k id n us (unStr gs) vb rs sp ob tx := ⟨_, rfl⟩
  obtain ⟨uRead, huRead⟩ : ∃ u : List UInt8 → Bool, u = leL := ⟨_, rfl⟩
  obtain ⟨uRead1, huRead1⟩ : ∃ u : List UInt8 → Int, u = fun s => (readV s).k := ⟨_, rfl⟩
  obtain ⟨uRead2, huRead2⟩ : ∃ u : List UInt8 → Int, u = fun s => (readV s).id := ⟨_, rfl⟩
  obtain ⟨uRead3, huRead3⟩ : ∃ u : List UInt8 → Int, u = fun s => (readV s).n := ⟨_, rfl⟩
  obtain ⟨uRead4, huRead4⟩ : ∃ u : List UInt8 → List UInt8, u = fun s => (readV s).us := ⟨_, rfl⟩
  obtain ⟨uRead5, huRead5⟩ : ∃ u : List UInt8 → List Dat, u = fun s => strDs (readV s).gs := ⟨_, rfl⟩
  obtain ⟨uRead6, huRead6⟩ : ∃ u : List UInt8 → List UInt8, u = fun s => (readV s).vb := ⟨_, rfl⟩
  obtain ⟨uRead7, huRead7⟩ : ∃ u : List UInt8 → List UInt8, u = fun s => (readV s).rs := ⟨_, rfl⟩
  obtain ⟨uRead8, huRead8⟩ : ∃ u : List UInt8 → List UInt8, u = fun s => (readV s).sp := ⟨_, rfl⟩
  obtain ⟨uRead9, huRead9⟩ : ∃ u : List UInt8 → Int, u = fun s => (readV s).ob := ⟨_, rfl⟩
  obtain ⟨uRead10, huRead10⟩ : ∃ u : List UInt8 → List UInt8, u = fun s => (readV s).tx := ⟨_, rfl⟩
  obtain ⟨uRead11, huRead11⟩ : ∃ u : List UInt8 → Int, u = readE := ⟨_, rfl⟩
  obtain ⟨uEvSame, huEvSame⟩ : ∃ u : List Dat → List Dat → Bool, u = fun l m => isStrs l && isStrs m := ⟨_, rfl⟩
  obtain ⟨uEvSame1, huEvSame1⟩ : ∃ u : Int → Int → Int → List UInt8 → List Dat → List UInt8 → List UInt8 → List UInt8 → Int → List UInt8 → Int → Int → Int → List UInt8 → List Dat → List UInt8 → List UInt8 → List UInt8 → Int → List UInt8 → Bool, u = fun k id n us gs vb rs sp ob tx k' id' n' us' gs' vb' rs' sp' ob' tx' => sameF k id n us (unStr gs) vb rs sp ob tx k' id' n' us' (unStr gs') vb' rs' sp' ob' tx' := ⟨_, rfl⟩
  have hG : TblOK Tryd.prog [(26, .p (φLine uLine uLine1)), (9, .p (φRead uRead uRead1 uRead2 uRead3 uRead4 uRead5 uRead6 uRead7 uRead8 uRead9 uRead10 uRead11)), (27, .p (φEvSame uEvSame uEvSame1))] := ⟨(by rw [huLine, huLine1]; exact φLine_ok), (by rw [huRead, huRead1, huRead2, huRead3, huRead4, huRead5, huRead6, huRead7, huRead8, huRead9, huRead10, huRead11]; exact φRead_ok), (by rw [huEvSame, huEvSame1]; exact φEvSame_ok), trivial⟩
  have h' := h
  simp only [lineP, Bool.and_eq_true, w2, decide_eq_true_eq] at h'
  obtain ⟨hg, l1, l2, l3, l4, l5⟩ := h'
  obtain ⟨zs, hzs⟩ : ∃ z, z = writeS ⟨k, id, n, us, unStr gs, vb, rs, sp, ob, tx⟩ := ⟨_, rfl⟩
  obtain ⟨ze, hze⟩ : ∃ z, z = writeE ⟨k, id, n, us, unStr gs, vb, rs, sp, ob, tx⟩ := ⟨_, rfl⟩
  rw [← hzs, ← hze]
  have q1 : uLine us gs vb rs sp tx = true := by subst huLine huLine1 huRead huRead1 huRead2 huRead3 huRead4 huRead5 huRead6 huRead7 huRead8 huRead9 huRead10 huRead11 huEvSame huEvSame1; exact h
  obtain ⟨ln, hln⟩ : ∃ z, z = uLine1 k id n us gs vb rs sp ob tx := ⟨_, rfl⟩
  have hl2 : (Ev.mk k id n us (unStr gs) vb rs sp ob tx).line = ln := by rw [hln, huLine1]; rfl
  refine ESpec.enter Tryd.func13 (by kernel_rfl) rfl (Nat.le_of_ble_eq_true rfl) fun hok cx hnt hfr => ?_
  obtain ⟨F, hF⟩ := real_ex
  refine AK.runT hF tabOK hmix hnt hfr true _ hG ?_
  conv => arg 4; cbv
  have o2 : id ≤ 9223372036854775807 := hok.1.2.1.2
  have o3 : n ≤ 9223372036854775807 := hok.1.2.2.1.2
  have o9 : ob ≤ 9223372036854775807 := hok.1.2.2.2.2.2.2.2.2.1.2
  have hlen : ln.length ≤ 1000000 := by rw [← hl2]; exact line_len o2 o3 o9 l1 l2 l3 l4 l5
  have q2 : uRead ln = true := by rw [huRead]; exact decide_eq_true hlen
  have q3 : uEvSame gs (uRead5 ln) = true := by
    rw [huEvSame, huRead5]
    show (isStrs gs && isStrs (strDs _)) = true
    rw [hg, isStrs_strDs]
    rfl
  obtain ⟨ee, hee⟩ : ∃ z, z = uRead11 ln := ⟨_, rfl⟩
  obtain ⟨sb, hsb⟩ : ∃ z, z = uEvSame1 k id n us gs vb rs sp ob tx (uRead1 ln) (uRead2 ln) (uRead3 ln) (uRead4 ln) (uRead5 ln) (uRead6 ln) (uRead7 ln) (uRead8 ln) (uRead9 ln) (uRead10 ln) := ⟨_, rfl⟩
  rw [← hln, ← hee, ← hsb]
  have hee2 : readE ln = ee := by rw [hee, huRead11]
  have hsb2 : (Ev.mk k id n us (unStr gs) vb rs sp ob tx).same (readV ln) = sb := by
    rw [hsb, huEvSame1, huRead1, huRead2, huRead3, huRead4, huRead5, huRead6, huRead7, huRead8, huRead9, huRead10]
    show _ = sameF _ _ _ _ _ _ _ _ _ _ _ _ _ _ (unStr (strDs _)) _ _ _ _ _
    rw [unStr_strDs]
    rfl
  unfold writeS okW at hzs
  unfold writeE okW at hze
  rw [hl2, hee2, hsb2] at hzs hze
  repeat' (first | with_reducible refine AKt.have ?_ | with_reducible refine AKt.tt ?_ | with_reducible refine AKt.ff ?_ | with_reducible refine AKt.yes (by assumption) ?_ | with_reducible refine AKt.no (by assumption) ?_ | with_reducible refine AKt.node (fun hb => ?_) (fun hb => ?_) | with_reducible refine AKt.need ?_ (fun hb => ?_) | with_reducible refine AKt.leaf ?_ | ((with_reducible show _ = true); assumption))
  all_goals
    refine AKp.doneE tabOK hfr (by rfl) ?_
    show _ = _
    simp only [tupAV]
    rw [hzs, hze]
    clear hzs hze hln hl2 hok hG q1 q2 q3 hee hsb hee2 hsb2 hlen h huLine huLine1 huRead huRead1 huRead2 huRead3 huRead4 huRead5 huRead6 huRead7 huRead8 huRead9 huRead10 huRead11 huEvSame huEvSame1
    simp only [hF, f_ltI, f_leI, f_eqI, f_eqS, f_eqB, f_not, f_andB, f_orB, f_lenS, f_lenD, f_hasS, f_atS, f_hasC, f_subS, f_hasCat, f_app, f_wrap, f_add, f_sub, f_mul, f_appD, f_fits, f_hasV, f_subV, decide_eq_true_eq, decide_eq_false_iff_not, beq_iff_eq, beq_eq_false_iff_ne, Bool.and_eq_true, Bool.and_eq_false_iff, Bool.not_eq_true, Bool.not_eq_false, Bool.not_eq_eq_eq_not, Bool.not_true, Bool.not_false] at *
    simp [*]
def φWrite (p : List UInt8 → List Dat → List UInt8 → List UInt8 → List UInt8 → List UInt8 → Bool) (u : Int → Int → Int → List UInt8 → List Dat → List UInt8 → List UInt8 → List UInt8 → Int → List UInt8 → List UInt8) (e : Int → Int → Int → List UInt8 → List Dat → List UInt8 → List UInt8 → List UInt8 → Int → List UInt8 → Int) : List AV → Option (Bool × AV)
  | [.d (.agg [.s (.int .i64 k), .s (.int .i64 id), .s (.int .i64 n), .s (.str us), .view 1 gs, .s (.str vb), .s (.str rs), .s (.str sp), .s (.int .i64 ob), .s (.str tx)])] => some (p us gs vb rs sp tx, .tup [.d (.s (.str (u k id n us gs vb rs sp ob tx))), .d (.s (.int .i64 (e k id n us gs vb rs sp ob tx)))])
  | _ => none
theorem φWrite_ok : SpOK Tryd.prog 13 (φWrite (lineP) (fun k id n us gs vb rs sp ob tx => writeS ⟨k, id, n, us, unStr gs, vb, rs, sp, ob, tx⟩) (fun k id n us gs vb rs sp ob tx => writeE ⟨k, id, n, us, unStr gs, vb, rs, sp, ob, tx⟩)) := by
  intro xs b x h hb
  unfold φWrite at h
  split at h
  · simp only [Option.some.injEq, Prod.mk.injEq] at h
    obtain ⟨rfl, rfl⟩ := h
    exact Write_spec _ _ _ _ _ _ _ _ _ _ hb
  · cases h
end Go.Proofs.YtmhkmoeailamlaaDoor

/- The reference: numbers, what is the same, what is loaded. -/
namespace Go.Proofs.YtmhkmoeailamlaaDoor
open Go Go.Proofs Go.Ua Go.Extern
set_option linter.unusedVariables false
set_option linter.unusedSimpArgs false
set_option maxRecDepth 10000

def rNumE (w : List UInt8) (a b : Int) : Int := if numB w a b = true then 0 else 8
theorem numV_none {w : List UInt8} {a b : Int} (h : ¬ numB w a b = true) : numV w a b = 0 := by
  unfold numB at h
  unfold numV
  cases hn : numberF w a b with
  | none => rfl
  | some x => rw [hn] at h; simp at h
theorem rnumber_spec (w : List UInt8) (a b : Int) : ESpec Tryd.prog 23 [.d (.s (.str w)), .d (.s (.int .i64 a)), .d (.s (.int .i64 b))] (fun x => x = .tup [.d (.s (.int .i64 (numV w a b))), .d (.s (.int .i64 (rNumE w a b)))]) := by
  obtain ⟨uRefNumber, huRefNumber⟩ : ∃ u : List UInt8 → Int → Int → Int, u = numV := ⟨_, rfl⟩
  obtain ⟨uRefNumber1, huRefNumber1⟩ : ∃ u : List UInt8 → Int → Int → Bool, u = numB := ⟨_, rfl⟩
  have hG : TblOK Tryd.prog [(43, .p (φRefNumber uRefNumber uRefNumber1))] := ⟨(by rw [huRefNumber, huRefNumber1]; exact φRefNumber_ok), trivial⟩
  obtain ⟨Z, hZ⟩ : ∃ z, z = rNumE w a b := ⟨_, rfl⟩
  obtain ⟨Y, hY⟩ : ∃ z, z = numV w a b := ⟨_, rfl⟩
  rw [← hZ, ← hY]
  refine ESpec.enter Tryd.func23 (by kernel_rfl) rfl (Nat.le_of_ble_eq_true rfl) fun hok cx hnt hfr => ?_
  obtain ⟨F, hF⟩ := real_ex
  refine AK.runT hF tabOK hmix hnt hfr false _ hG ?_
  conv => arg 4; cbv
  repeat' (first | with_reducible refine AKt.have ?_ | with_reducible refine AKt.tt ?_ | with_reducible refine AKt.ff ?_ | with_reducible refine AKt.yes (by assumption) ?_ | with_reducible refine AKt.no (by assumption) ?_ | with_reducible refine AKt.node (fun hb => ?_) (fun hb => ?_) | with_reducible refine AKt.need ?_ (fun hb => ?_) | with_reducible refine AKt.leaf ?_ | ((with_reducible show _ = true); assumption))
  all_goals
    refine AKp.doneE tabOK hfr (by rfl) ?_
    show _ = _
    simp only [tupAV]
    rw [hZ, hY]
    subst huRefNumber huRefNumber1
    simp only [hF, f_ltI, f_leI, f_eqI, f_eqS, f_eqB, f_not, f_andB, f_orB, f_lenS, f_lenD, f_hasS, f_atS, f_hasC, f_subS, f_hasCat, f_app, f_wrap, f_add, f_sub, f_mul, f_appD, f_fits, f_hasV, f_subV, decide_eq_true_eq, decide_eq_false_iff_not, beq_iff_eq, beq_eq_false_iff_ne, Bool.and_eq_true, Bool.and_eq_false_iff, Bool.not_eq_true, Bool.not_eq_false, Bool.not_eq_eq_eq_not, Bool.not_true, Bool.not_false] at *
    first
      | (simp [rNumE, *]; done)
      | (simp [rNumE, *, numV_none])
def φRNumber (u v : List UInt8 → Int → Int → Int) : List AV → Option (Bool × AV)
  | [.d (.s (.str w)), .d (.s (.int .i64 a)), .d (.s (.int .i64 b))] => some (true, .tup [.d (.s (.int .i64 (u w a b))), .d (.s (.int .i64 (v w a b)))])
  | _ => none
theorem φRNumber_ok : SpOK Tryd.prog 23 (φRNumber (numV) (rNumE)) := by
  intro xs b x h hb
  unfold φRNumber at h
  split at h
  · simp only [Option.some.injEq, Prod.mk.injEq] at h
    obtain ⟨rfl, rfl⟩ := h
    exact rnumber_spec _ _ _
  · cases h
def inB3 (n a b : Int) : Bool := decide (a ≤ n) && decide (n ≤ b)
theorem within_spec (n a b : Int) : ESpec Tryd.prog 29 [.d (.s (.int .i64 n)), .d (.s (.int .i64 a)), .d (.s (.int .i64 b))] (fun x => x = .d (.s (.bool (inB3 n a b)))) := by
  refine ESpec.enter Tryd.func29 (by kernel_rfl) rfl (Nat.le_of_ble_eq_true rfl) fun _ cx hnt hfr => ?_
  obtain ⟨F, hF⟩ := real_ex
  refine AK.runT hF tabOK hmix hnt hfr false [] trivial ?_
  conv => arg 4; cbv
  repeat' (first | with_reducible refine AKt.have ?_ | with_reducible refine AKt.tt ?_ | with_reducible refine AKt.ff ?_ | with_reducible refine AKt.yes (by assumption) ?_ | with_reducible refine AKt.no (by assumption) ?_ | with_reducible refine AKt.node (fun hb => ?_) (fun hb => ?_) | with_reducible refine AKt.need ?_ (fun hb => ?_) | with_reducible refine AKt.leaf ?_ | ((with_reducible show _ = true); assumption))
  all_goals
    refine AKp.doneE tabOK hfr (by rfl) ?_
    show _ = _
    simp only [tupAV]
    simp only [hF, f_ltI, f_leI, f_eqI, f_eqS, f_eqB, f_not, f_andB, f_orB, f_lenS, f_lenD, f_hasS, f_atS, f_hasC, f_subS, f_hasCat, f_app, f_wrap, f_add, f_sub, f_mul, f_appD, f_fits, f_hasV, f_subV, decide_eq_true_eq, decide_eq_false_iff_not, beq_iff_eq, beq_eq_false_iff_ne, Bool.and_eq_true, Bool.and_eq_false_iff, Bool.not_eq_true, Bool.not_eq_false, Bool.not_eq_eq_eq_not, Bool.not_true, Bool.not_false] at *
    simp [inB3, *]
def φWithin (u : Int → Int → Int → Bool) : List AV → Option (Bool × AV)
  | [.d (.s (.int .i64 n)), .d (.s (.int .i64 a)), .d (.s (.int .i64 b))] => some (true, .d (.s (.bool (u n a b))))
  | _ => none
theorem φWithin_ok : SpOK Tryd.prog 29 (φWithin (inB3)) := by
  intro xs b x h hb
  unfold φWithin at h
  split at h
  · simp only [Option.some.injEq, Prod.mk.injEq] at h
    obtain ⟨rfl, rfl⟩ := h
    exact within_spec _ _ _
  · cases h

def rsameF (k id n : Int) (us : List UInt8) (gs : List (List UInt8)) (vb rs sp : List UInt8) (ob : Int) (tx : List UInt8) (k' id' n' : Int) (us' : List UInt8) (gs' : List (List UInt8)) (vb' rs' sp' : List UInt8) (ob' : Int) (tx' : List UInt8) : Bool :=
  decide (k = k') && (decide (id = id') && (decide (n = n') && (decide (tx = tx') && (decide (us = us') && (decide (vb = vb') && (decide (rs = rs') && (decide (sp = sp') && (decide (ob = ob') && decide (gs = gs')))))))))
set_option maxHeartbeats 4000000 in
set_option cbv.maxSteps 10000000 in
theorem rsame_spec (k id n : Int) (us : List UInt8) (gs : List Dat) (vb rs sp : List UInt8) (ob : Int) (tx : List UInt8) (k' id' n' : Int) (us' : List UInt8) (gs' : List Dat) (vb' rs' sp' : List UInt8) (ob' : Int) (tx' : List UInt8) (hg : isStrs gs = true) (hg' : isStrs gs' = true) :
    ESpec Tryd.prog 11 [.d (.agg [.s (.int .i64 k), .s (.int .i64 id), .s (.int .i64 n), .s (.str us), .view 1 gs, .s (.str vb), .s (.str rs), .s (.str sp), .s (.int .i64 ob), .s (.str tx)]), .d (.agg [.s (.int .i64 k'), .s (.int .i64 id'), .s (.int .i64 n'), .s (.str us'), .view 1 gs', .s (.str vb'), .s (.str rs'), .s (.str sp'), .s (.int .i64 ob'), .s (.str tx')])]
      (fun x => x = .d (.s (.bool (rsameF k id n us (unStr gs) vb rs sp ob tx k' id' n' us' (unStr gs') vb' rs' sp' ob' tx')))) := by
  obtain ⟨uSame, huSame⟩ : ∃ u : List Dat → List Dat → Bool, u = fun l m => isStrs l && isStrs m := ⟨_, rfl⟩
  obtain ⟨uSame1, huSame1⟩ : ∃ u : List Dat → List Dat → Bool, u = fun l m => decide (unStr l = unStr m) := ⟨_, rfl⟩
  have hG : TblOK Tryd.prog [(25, .p (φSame uSame uSame1))] := ⟨(by rw [huSame, huSame1]; exact φSame_ok), trivial⟩
  obtain ⟨Z, hZ⟩ : ∃ z, z = rsameF k id n us (unStr gs) vb rs sp ob tx k' id' n' us' (unStr gs') vb' rs' sp' ob' tx' := ⟨_, rfl⟩
  rw [← hZ]
  have qj : uSame gs gs' = true := by subst huSame huSame1; simp [hg, hg']
  refine ESpec.enter Tryd.func11 (by kernel_rfl) rfl (Nat.le_of_ble_eq_true rfl) fun hok cx hnt hfr => ?_
  obtain ⟨F, hF⟩ := real_ex
  refine AK.runT hF tabOK hmix hnt hfr true _ hG ?_
  conv => arg 4; cbv
  have ej : uSame1 gs gs' = decide (unStr gs = unStr gs') := by rw [huSame1]
  rw [ej]
  repeat' (first | with_reducible refine AKt.have ?_ | with_reducible refine AKt.tt ?_ | with_reducible refine AKt.ff ?_ | with_reducible refine AKt.yes (by assumption) ?_ | with_reducible refine AKt.no (by assumption) ?_ | with_reducible refine AKt.node (fun hb => ?_) (fun hb => ?_) | with_reducible refine AKt.need ?_ (fun hb => ?_) | with_reducible refine AKt.leaf ?_ | ((with_reducible show _ = true); assumption))
  all_goals
    refine AKp.doneE tabOK hfr (by rfl) ?_
    show _ = _
    simp only [tupAV]
    rw [hZ]
    clear hZ hok hG qj ej huSame huSame1 hg hg'
    simp only [hF, f_ltI, f_leI, f_eqI, f_eqS, f_eqB, f_not, f_andB, f_orB, f_lenS, f_lenD, f_hasS, f_atS, f_hasC, f_subS, f_hasCat, f_app, f_wrap, f_add, f_sub, f_mul, f_appD, f_fits, f_hasV, f_subV, decide_eq_true_eq, decide_eq_false_iff_not, beq_iff_eq, beq_eq_false_iff_ne, Bool.and_eq_true, Bool.and_eq_false_iff, Bool.not_eq_true, Bool.not_eq_false, Bool.not_eq_eq_eq_not, Bool.not_true, Bool.not_false] at *
    simp [rsameF, *]
def φRSame (p : List Dat → List Dat → Bool) (q : Int → Int → Int → List UInt8 → List Dat → List UInt8 → List UInt8 → List UInt8 → Int → List UInt8 → Int → Int → Int → List UInt8 → List Dat → List UInt8 → List UInt8 → List UInt8 → Int → List UInt8 → Bool) : List AV → Option (Bool × AV)
  | [.d (.agg [.s (.int .i64 k), .s (.int .i64 id), .s (.int .i64 n), .s (.str us), .view 1 gs, .s (.str vb), .s (.str rs), .s (.str sp), .s (.int .i64 ob), .s (.str tx)]), .d (.agg [.s (.int .i64 k'), .s (.int .i64 id'), .s (.int .i64 n'), .s (.str us'), .view 1 gs', .s (.str vb'), .s (.str rs'), .s (.str sp'), .s (.int .i64 ob'), .s (.str tx')])] => some (p gs gs', .d (.s (.bool (q k id n us gs vb rs sp ob tx k' id' n' us' gs' vb' rs' sp' ob' tx'))))
  | _ => none
theorem φRSame_ok : SpOK Tryd.prog 11 (φRSame (fun l m => isStrs l && isStrs m) (fun k id n us gs vb rs sp ob tx k' id' n' us' gs' vb' rs' sp' ob' tx' => rsameF k id n us (unStr gs) vb rs sp ob tx k' id' n' us' (unStr gs') vb' rs' sp' ob' tx')) := by
  intro xs b x h hb
  unfold φRSame at h
  split at h
  · simp only [Option.some.injEq, Prod.mk.injEq] at h
    obtain ⟨rfl, rfl⟩ := h
    simp only [Bool.and_eq_true] at hb; exact rsame_spec _ _ _ _ _ _ _ _ _ _ _ _ _ _ _ _ _ _ _ _ hb.1 hb.2
  · cases h
theorem rbare_spec (k id n : Int) (us : List UInt8) (gs : List Dat) (vb rs sp : List UInt8) (ob : Int) (tx : List UInt8) (k' id' n' : Int) (tx' : List UInt8) (hg : isStrs gs = true) :
    ESpec Tryd.prog 32 [.d (.agg [.s (.int .i64 k), .s (.int .i64 id), .s (.int .i64 n), .s (.str us), .view 1 gs, .s (.str vb), .s (.str rs), .s (.str sp), .s (.int .i64 ob), .s (.str tx)]), .d (.s (.int .i64 k')), .d (.s (.int .i64 id')), .d (.s (.int .i64 n')), .d (.s (.str tx'))]
      (fun x => x = .d (.s (.bool (rsameF k id n us (unStr gs) vb rs sp ob tx k' id' n' [] [] [] [] [] 0 tx')))) := by
  obtain ⟨uRSame, huRSame⟩ : ∃ u : List Dat → List Dat → Bool, u = fun l m => isStrs l && isStrs m := ⟨_, rfl⟩
  obtain ⟨uRSame1, huRSame1⟩ : ∃ u : Int → Int → Int → List UInt8 → List Dat → List UInt8 → List UInt8 → List UInt8 → Int → List UInt8 → Int → Int → Int → List UInt8 → List Dat → List UInt8 → List UInt8 → List UInt8 → Int → List UInt8 → Bool, u = fun k id n us gs vb rs sp ob tx k' id' n' us' gs' vb' rs' sp' ob' tx' => rsameF k id n us (unStr gs) vb rs sp ob tx k' id' n' us' (unStr gs') vb' rs' sp' ob' tx' := ⟨_, rfl⟩
  have hG : TblOK Tryd.prog [(11, .p (φRSame uRSame uRSame1))] := ⟨(by rw [huRSame, huRSame1]; exact φRSame_ok), trivial⟩
  obtain ⟨Z, hZ⟩ : ∃ z, z = rsameF k id n us (unStr gs) vb rs sp ob tx k' id' n' [] [] [] [] [] 0 tx' := ⟨_, rfl⟩
  rw [← hZ]
  have qj : uRSame gs [] = true := by subst huRSame huRSame1; simp [hg]; rfl
  refine ESpec.enter Tryd.func32 (by kernel_rfl) rfl (Nat.le_of_ble_eq_true rfl) fun hok cx hnt hfr => ?_
  obtain ⟨F, hF⟩ := real_ex
  refine AK.runT hF tabOK hmix hnt hfr true _ hG ?_
  conv => arg 4; cbv
  repeat' (first | with_reducible refine AKt.have ?_ | with_reducible refine AKt.tt ?_ | with_reducible refine AKt.ff ?_ | with_reducible refine AKt.yes (by assumption) ?_ | with_reducible refine AKt.no (by assumption) ?_ | with_reducible refine AKt.node (fun hb => ?_) (fun hb => ?_) | with_reducible refine AKt.need ?_ (fun hb => ?_) | with_reducible refine AKt.leaf ?_ | ((with_reducible show _ = true); assumption))
  refine AKp.doneE tabOK hfr (by rfl) ?_
  show _ = _
  simp only [tupAV]
  rw [huRSame1, hZ]
  rfl
def φRBare (p : List Dat → Bool) (q : Int → Int → Int → List UInt8 → List Dat → List UInt8 → List UInt8 → List UInt8 → Int → List UInt8 → Int → Int → Int → List UInt8 → Bool) : List AV → Option (Bool × AV)
  | [.d (.agg [.s (.int .i64 k), .s (.int .i64 id), .s (.int .i64 n), .s (.str us), .view 1 gs, .s (.str vb), .s (.str rs), .s (.str sp), .s (.int .i64 ob), .s (.str tx)]), .d (.s (.int .i64 k')), .d (.s (.int .i64 id')), .d (.s (.int .i64 n')), .d (.s (.str tx'))] => some (p gs, .d (.s (.bool (q k id n us gs vb rs sp ob tx k' id' n' tx'))))
  | _ => none
theorem φRBare_ok : SpOK Tryd.prog 32 (φRBare (isStrs) (fun k id n us gs vb rs sp ob tx k' id' n' tx' => rsameF k id n us (unStr gs) vb rs sp ob tx k' id' n' [] [] [] [] [] 0 tx')) := by
  intro xs b x h hb
  unfold φRBare at h
  split at h
  · simp only [Option.some.injEq, Prod.mk.injEq] at h
    obtain ⟨rfl, rfl⟩ := h
    exact rbare_spec _ _ _ _ _ _ _ _ _ _ _ _ _ _ hb
  · cases h
end Go.Proofs.YtmhkmoeailamlaaDoor

/- What is loaded, as the reference has it. -/
namespace Go.Proofs.YtmhkmoeailamlaaDoor
open Go Go.Proofs Go.Ua Go.Extern
set_option linter.unusedVariables false
set_option linter.unusedSimpArgs false
set_option maxRecDepth 10000

def bytesDs (l : List UInt8) : List Dat := l.map fun c => .s (.int .u8 (c.toNat : Int))
theorem strOf_bytes : ∀ l : List UInt8, strOf (bytesDs l) = some l
  | [] => rfl
  | c :: l => by
    have ih := strOf_bytes l
    unfold bytesDs at ih ⊢
    rw [List.map_cons, strOf, ih]
    have : UInt8.ofNat ((c.toNat : Int)).toNat = c := by rw [Int.toNat_natCast, UInt8.ofNat_toNat]
    simp only [this, if_true]
theorem bytesDs_snoc (l : List UInt8) (c : UInt8) : bytesDs (l ++ [c]) = bytesDs l ++ [.s (.int .u8 (c.toNat : Int))] := by simp [bytesDs]
theorem swap_snoc (a b : UInt8) (l : List UInt8) (c : UInt8) : swapB a b (l ++ [c]) = swapB a b l ++ [if c = a then b else c] := by simp [swapB]
def loadW : List UInt8 := [108, 111, 97, 100]
theorem rload_at (n : Nat) {rest : List UInt8} (hr : rest = [] ∨ ∃ t, rest = 32 :: t) (hl : n + rest.length ≤ 1000000) : ESpec Tryd.prog 22 [.d (.s (.str (List.replicate n 32 ++ (loadW ++ rest))))] (fun x => x = .d (.s (.str (swapB 59 10 (restF rest))))) := by
  obtain ⟨s, hs⟩ : ∃ z, z = List.replicate n 32 ++ (loadW ++ rest) := ⟨_, rfl⟩
  obtain ⟨Z, hZ⟩ : ∃ z, z = swapB 59 10 (restF rest) := ⟨_, rfl⟩
  rw [← hs, ← hZ]
  have hlen : s.length = n + 4 + rest.length := by rw [hs]; simp [loadW]; omega
  have at0 : ∀ i, i < n → s[i]? = some 32 := fun i hi => by rw [hs, List.getElem?_append_left (by simpa using hi), List.getElem?_replicate, if_pos hi]
  have at1 : s[n]? = some 108 := by rw [hs, List.getElem?_append_right (by simp)]; simp [loadW]
  have dr : s.drop (n + 4) = rest := by
    rw [hs, ← List.append_assoc]
    exact List.drop_left' (by simp [loadW])
  refine ESpec.enter Tryd.func22 (by kernel_rfl) rfl (Nat.le_of_ble_eq_true rfl) fun hok cx hnt hfr => ?_
  obtain ⟨F, hF⟩ := real_ex
  refine AK.runT hF tabOK hmix hnt hfr false [] trivial ?_
  conv => arg 4; cbv
  repeat' (first | with_reducible refine AKt.have ?_ | with_reducible refine AKt.tt ?_ | with_reducible refine AKt.ff ?_ | with_reducible refine AKt.yes (by assumption) ?_ | with_reducible refine AKt.no (by assumption) ?_ | with_reducible refine AKt.node (fun hb => ?_) (fun hb => ?_) | with_reducible refine AKt.need ?_ (fun hb => ?_) | with_reducible refine AKt.leaf ?_ | ((with_reducible show _ = true); assumption))
  refine AKp.enterLoop 6 ?_
  conv => arg 7; cbv
  refine AKl.invT hF tabOK hmix hnt hfr false [] trivial (fun m vs hs => ∃ (i : Nat) (iv : Int), i + m = n ∧ iv = i ∧ vs = [(3, .d (.s (.int .i64 iv)))] ∧ hs = []) n ⟨0, _, by omega, rfl, rfl, rfl⟩ (by repeat (first | exact True.intro | refine ⟨⟨rfl, rfl⟩, ?_⟩)) (by repeat (first | exact True.intro | refine ⟨⟨rfl, rfl, rfl⟩, ?_⟩)) ?_
  rintro J m vs hs' hJ ⟨i, iv, hi, hiv, rfl, rfl⟩
  conv => arg 4; cbv
  have h1 : F .hasS s iv = true := t_hasS hF (i := i) (by omega) hiv
  refine AKt.need h1 fun _ => ?_
  refine AKt.node (fun hb => ?_) (fun hb => ?_)
  · have hin : i < n := by
      rcases Nat.lt_or_ge i n with g | g
      · exact g
      · obtain rfl : i = n := by omega
        rw [t_atS hF at1 hiv] at hb
        simp only [hF, f_ltI, f_leI, f_eqI, f_eqS, f_eqB, f_not, f_andB, f_orB, f_lenS, f_lenD, f_hasS, f_atS, f_hasC, f_subS, f_hasCat, f_app, f_wrap, f_add, f_sub, f_mul, f_appD, f_fits, f_hasV, f_subV, decide_eq_true_eq, decide_eq_false_iff_not, beq_iff_eq, beq_eq_false_iff_ne, Bool.and_eq_true, Bool.and_eq_false_iff, Bool.not_eq_true, Bool.not_eq_false, Bool.not_eq_eq_eq_not, Bool.not_true, Bool.not_false] at hb
        exact absurd hb (by decide)
    repeat' (first | with_reducible refine AKt.have ?_ | with_reducible refine AKt.tt ?_ | with_reducible refine AKt.ff ?_ | with_reducible refine AKt.yes (by assumption) ?_ | with_reducible refine AKt.no (by assumption) ?_ | with_reducible refine AKt.node (fun hb => ?_) (fun hb => ?_) | with_reducible refine AKt.need ?_ (fun hb => ?_) | with_reducible refine AKt.leaf ?_ | ((with_reducible show _ = true); assumption))
    refine AKp.again _ hfr (by repeat (first | exact True.intro | refine ⟨⟨rfl, rfl⟩, ?_⟩)) (by repeat (first | exact True.intro | refine ⟨⟨rfl, rfl, rfl⟩, ?_⟩)) (hJ (m - 1) _ _ (by omega) ⟨i + 1, _, by omega, inc_i hF hiv (by omega), rfl, rfl⟩)
  have hin : i = n := by
    rcases Nat.lt_or_ge i n with g | g
    · rw [t_atS hF (at0 i g) hiv] at hb
      simp only [hF, f_ltI, f_leI, f_eqI, f_eqS, f_eqB, f_not, f_andB, f_orB, f_lenS, f_lenD, f_hasS, f_atS, f_hasC, f_subS, f_hasCat, f_app, f_wrap, f_add, f_sub, f_mul, f_appD, f_fits, f_hasV, f_subV, decide_eq_true_eq, decide_eq_false_iff_not, beq_iff_eq, beq_eq_false_iff_ne, Bool.and_eq_true, Bool.and_eq_false_iff, Bool.not_eq_true, Bool.not_eq_false, Bool.not_eq_eq_eq_not, Bool.not_true, Bool.not_false] at hb
      exact absurd hb (by decide)
    · omega
  clear hJ
  have e4 : F .wrap .i64 (F .add iv 4) = ((n + 4 : Nat) : Int) := by
    rw [hF, hiv, hin]
    show IntKind.i64.wrap ((n : Int) + 4) = _
    rw [w_i64 (by omega) (by omega)]
    omega
  obtain ⟨iv4, hiv4⟩ : ∃ z : Int, z = ((n + 4 : Nat) : Int) := ⟨_, rfl⟩
  rw [← hiv4] at e4
  rw [e4]
  obtain ⟨k0, hk⟩ : ∃ k0, k0 = if rest = [] then n + 4 else n + 5 := ⟨_, rfl⟩
  have hk0 : s.drop k0 = restF rest ∧ k0 ≤ s.length := by
    rcases hr with rfl | ⟨t, rfl⟩
    · rw [hk, if_pos rfl]; exact ⟨dr, by omega⟩
    · rw [hk, if_neg (by simp)]
      refine ⟨?_, by simp at hlen; omega⟩
      rw [show n + 5 = n + 4 + 1 by omega, ← List.drop_drop, dr]
      rfl
  have at4 : rest ≠ [] → s[n + 4]? = some 32 := fun h => by
    rcases hr with rfl | ⟨t, rfl⟩
    · exact absurd rfl h
    · have := congrArg (·[0]?) dr
      simpa using this
  refine exK ?K0 fun kk hK => ?_
  rotate_left
  have loop2 : ∀ kv : Int, kv = k0 → AK Tryd.prog cx (finE Tryd.prog Tryd.f22 cx fun x => x = .d (.s (.str Z))) kk ⟨[(3, .d (.s (.int .i64 kv))), (4, .d (.s .sl0)), (0, .d (.s (.str s)))], [], 0⟩ := ?loop2
  refine AKt.node (fun hb1 => ?_) (fun hb1 => ?_)
  · have hne : rest ≠ [] := fun e => by
      rw [hiv4] at hb1
      simp only [hF, f_ltI, f_leI, f_eqI, f_eqS, f_eqB, f_not, f_andB, f_orB, f_lenS, f_lenD, f_hasS, f_atS, f_hasC, f_subS, f_hasCat, f_app, f_wrap, f_add, f_sub, f_mul, f_appD, f_fits, f_hasV, f_subV, decide_eq_true_eq, decide_eq_false_iff_not, beq_iff_eq, beq_eq_false_iff_ne, Bool.and_eq_true, Bool.and_eq_false_iff, Bool.not_eq_true, Bool.not_eq_false, Bool.not_eq_eq_eq_not, Bool.not_true, Bool.not_false] at hb1
      rw [e] at hlen
      simp at hlen
      omega
    have h2 : F .hasS s iv4 = true := t_hasS hF (i := n + 4) (by have := List.length_pos_iff.2 hne; omega) hiv4
    refine AKt.need h2 fun _ => ?_
    have h3 : F .eqI (F .atS s iv4) 32 = true := by rw [t_atS hF (at4 hne) hiv4, hF]; rfl
    repeat' (first | with_reducible refine AKt.have ?_ | with_reducible refine AKt.tt ?_ | with_reducible refine AKt.ff ?_ | with_reducible refine AKt.yes (by assumption) ?_ | with_reducible refine AKt.no (by assumption) ?_ | with_reducible refine AKt.node (fun hb => ?_) (fun hb => ?_) | with_reducible refine AKt.need ?_ (fun hb => ?_) | with_reducible refine AKt.leaf ?_ | ((with_reducible show _ = true); assumption))
    refine AKp.join hK _ hfr ?_ ?_ (loop2 (F .wrap .i64 (F .add iv4 1)) ?_)
    · repeat (first | exact True.intro | refine ⟨⟨rfl, rfl⟩, ?_⟩)
    · repeat (first | exact True.intro | refine ⟨⟨rfl, rfl, rfl⟩, ?_⟩)
    · rw [inc_i hF hiv4 (by omega), hk, if_neg hne]
  · have he : rest = [] := by
      rcases hr with rfl | ⟨t, rfl⟩
      · rfl
      · rw [hiv4] at hb1
        simp only [hF, f_ltI, f_leI, f_eqI, f_eqS, f_eqB, f_not, f_andB, f_orB, f_lenS, f_lenD, f_hasS, f_atS, f_hasC, f_subS, f_hasCat, f_app, f_wrap, f_add, f_sub, f_mul, f_appD, f_fits, f_hasV, f_subV, decide_eq_true_eq, decide_eq_false_iff_not, beq_iff_eq, beq_eq_false_iff_ne, Bool.and_eq_true, Bool.and_eq_false_iff, Bool.not_eq_true, Bool.not_eq_false, Bool.not_eq_eq_eq_not, Bool.not_true, Bool.not_false] at hb1
        simp at hlen
        omega
    repeat' (first | with_reducible refine AKt.have ?_ | with_reducible refine AKt.tt ?_ | with_reducible refine AKt.ff ?_ | with_reducible refine AKt.yes (by assumption) ?_ | with_reducible refine AKt.no (by assumption) ?_ | with_reducible refine AKt.node (fun hb => ?_) (fun hb => ?_) | with_reducible refine AKt.need ?_ (fun hb => ?_) | with_reducible refine AKt.leaf ?_ | ((with_reducible show _ = true); assumption))
    refine AKp.join hK _ hfr ?_ ?_ (loop2 iv4 ?_)
    · repeat (first | exact True.intro | refine ⟨⟨rfl, rfl⟩, ?_⟩)
    · repeat (first | exact True.intro | refine ⟨⟨rfl, rfl, rfl⟩, ?_⟩)
    · rw [hiv4, hk, if_pos he]
  case' loop2 =>
    intro kv hkv
    rw [hK]
    clear hiv4 e4 hiv h1 hb hin hK at4 at0 at1
    refine AK.runT hF tabOK hmix hnt hfr false [] trivial ?_
    conv => arg 4; cbv
    repeat' (first | with_reducible refine AKt.have ?_ | with_reducible refine AKt.tt ?_ | with_reducible refine AKt.ff ?_ | with_reducible refine AKt.yes (by assumption) ?_ | with_reducible refine AKt.no (by assumption) ?_ | with_reducible refine AKt.node (fun hb => ?_) (fun hb => ?_) | with_reducible refine AKt.need ?_ (fun hb => ?_) | with_reducible refine AKt.leaf ?_ | ((with_reducible show _ = true); assumption))
    refine AKp.asRow 4 5 1 (by decide) rfl ?_
    conv => arg 4; arg 2; cbv
    refine AKp.enterLoop 6 ?_
    conv => arg 7; cbv
    refine AKl.invT hF tabOK hmix hnt hfr false [] trivial (fun m vs hs => ∃ (i : Nat) (iv : Int) (es : List Dat), i + m = s.length ∧ k0 ≤ i ∧ iv = i ∧ es = bytesDs (swapB 59 10 ((s.take i).drop k0)) ∧ vs = [(3, .d (.s (.int .i64 iv))), (4, .row 0 1)] ∧ hs = [(0, .ds 5 1 es)]) (s.length - k0) ⟨k0, kv, [], by omega, Nat.le_refl _, hkv, by simp [swapB, bytesDs], rfl, rfl⟩ (by repeat (first | exact True.intro | refine ⟨⟨rfl, rfl⟩, ?_⟩)) (by repeat (first | exact True.intro | refine ⟨⟨rfl, rfl, rfl⟩, ?_⟩)) ?_
    rintro J m vs hs' hJ ⟨i, iv, es, hi, hki, hiv, hes, rfl, rfl⟩
    have hesl : es.length ≤ s.length := by rw [hes]; simp [bytesDs, swapB]; omega
    conv => arg 4; cbv
    refine AKt.node (fun hb => ?_) (fun hb => ?_)
    · have hlt : i < s.length := by simp only [hF, f_ltI, f_leI, f_eqI, f_eqS, f_eqB, f_not, f_andB, f_orB, f_lenS, f_lenD, f_hasS, f_atS, f_hasC, f_subS, f_hasCat, f_app, f_wrap, f_add, f_sub, f_mul, f_appD, f_fits, f_hasV, f_subV, decide_eq_true_eq, decide_eq_false_iff_not, beq_iff_eq, beq_eq_false_iff_ne, Bool.and_eq_true, Bool.and_eq_false_iff, Bool.not_eq_true, Bool.not_eq_false, Bool.not_eq_eq_eq_not, Bool.not_true, Bool.not_false] at hb; omega
      obtain ⟨x, hx⟩ : ∃ c, s[i]? = some c := ⟨_, List.getElem?_eq_getElem hlt⟩
      have h1 : F .hasS s iv = true := t_hasS hF hlt hiv
      obtain ⟨xv, hxv⟩ : ∃ z : Int, z = (x.toNat : Int) := ⟨_, rfl⟩
      have e1 : F .atS s iv = xv := by rw [hxv]; exact t_atS hF hx hiv
      have hft : ∀ c : Dat, F .fits 1 (F .appD es [c]) = true := fun c => by rw [hF]; exact decide_eq_true (by show (es ++ [c]).length * 1 ≤ _; simp; omega)
      have hnext : ∀ cv : Int, cv = ((if x = 59 then (10 : UInt8) else x).toNat : Int) → F .appD es [.s (.int .u8 cv)] = bytesDs (swapB 59 10 ((s.take (i + 1)).drop k0)) := fun cv hcv => by
        rw [hF, f_appD, hes, hcv, List.take_add_one, hx, List.drop_append_of_le_length (by simp; omega)]
        show _ = bytesDs (swapB 59 10 (_ ++ [x]))
        rw [swap_snoc, bytesDs_snoc]
      rw [e1]
      refine AKt.need h1 fun _ => ?_
      refine AKt.node (fun hb2 => ?_) (fun hb2 => ?_)
      · have hc : x = 59 := by
          rw [hxv] at hb2
          simp only [hF, f_ltI, f_leI, f_eqI, f_eqS, f_eqB, f_not, f_andB, f_orB, f_lenS, f_lenD, f_hasS, f_atS, f_hasC, f_subS, f_hasCat, f_app, f_wrap, f_add, f_sub, f_mul, f_appD, f_fits, f_hasV, f_subV, decide_eq_true_eq, decide_eq_false_iff_not, beq_iff_eq, beq_eq_false_iff_ne, Bool.and_eq_true, Bool.and_eq_false_iff, Bool.not_eq_true, Bool.not_eq_false, Bool.not_eq_eq_eq_not, Bool.not_true, Bool.not_false] at hb2
          exact UInt8.toNat_inj.1 (by show x.toNat = 59; omega)
        have h10 := hft (.s (.int .u8 10))
        repeat' (first | with_reducible refine AKt.have ?_ | with_reducible refine AKt.tt ?_ | with_reducible refine AKt.ff ?_ | with_reducible refine AKt.yes (by assumption) ?_ | with_reducible refine AKt.no (by assumption) ?_ | with_reducible refine AKt.node (fun hb => ?_) (fun hb => ?_) | with_reducible refine AKt.need ?_ (fun hb => ?_) | with_reducible refine AKt.leaf ?_ | ((with_reducible show _ = true); assumption))
        refine AKp.againR [(0, 2)] _ hfr (by repeat (first | exact True.intro | refine ⟨⟨rfl, rfl⟩, ?_⟩)) (by repeat (first | exact True.intro | refine ⟨⟨Nat.le_of_ble_eq_true rfl, rfl, rfl⟩, ?_⟩)) rfl (hJ (m - 1) _ _ (by omega) ⟨i + 1, _, _, by omega, by omega, inc_i hF hiv (by omega), hnext 10 (by rw [if_pos hc]; rfl), rfl, rfl⟩)
      · have hc : ¬ x = 59 := fun e => by
          rw [hxv, e] at hb2
          simp only [hF, f_ltI, f_leI, f_eqI, f_eqS, f_eqB, f_not, f_andB, f_orB, f_lenS, f_lenD, f_hasS, f_atS, f_hasC, f_subS, f_hasCat, f_app, f_wrap, f_add, f_sub, f_mul, f_appD, f_fits, f_hasV, f_subV, decide_eq_true_eq, decide_eq_false_iff_not, beq_iff_eq, beq_eq_false_iff_ne, Bool.and_eq_true, Bool.and_eq_false_iff, Bool.not_eq_true, Bool.not_eq_false, Bool.not_eq_eq_eq_not, Bool.not_true, Bool.not_false] at hb2
          exact absurd rfl hb2
        have h10 := hft (.s (.int .u8 xv))
        repeat' (first | with_reducible refine AKt.have ?_ | with_reducible refine AKt.tt ?_ | with_reducible refine AKt.ff ?_ | with_reducible refine AKt.yes (by assumption) ?_ | with_reducible refine AKt.no (by assumption) ?_ | with_reducible refine AKt.node (fun hb => ?_) (fun hb => ?_) | with_reducible refine AKt.need ?_ (fun hb => ?_) | with_reducible refine AKt.leaf ?_ | ((with_reducible show _ = true); assumption))
        refine AKp.againR [(0, 2)] _ hfr (by repeat (first | exact True.intro | refine ⟨⟨rfl, rfl⟩, ?_⟩)) (by repeat (first | exact True.intro | refine ⟨⟨Nat.le_of_ble_eq_true rfl, rfl, rfl⟩, ?_⟩)) rfl (hJ (m - 1) _ _ (by omega) ⟨i + 1, _, _, by omega, by omega, inc_i hF hiv (by omega), hnext xv (by rw [if_neg hc, hxv]), rfl, rfl⟩)
    · have hge : ¬ i < s.length := by simp only [hF, f_ltI, f_leI, f_eqI, f_eqS, f_eqB, f_not, f_andB, f_orB, f_lenS, f_lenD, f_hasS, f_atS, f_hasC, f_subS, f_hasCat, f_app, f_wrap, f_add, f_sub, f_mul, f_appD, f_fits, f_hasV, f_subV, decide_eq_true_eq, decide_eq_false_iff_not, beq_iff_eq, beq_eq_false_iff_ne, Bool.and_eq_true, Bool.and_eq_false_iff, Bool.not_eq_true, Bool.not_eq_false, Bool.not_eq_eq_eq_not, Bool.not_true, Bool.not_false] at hb; omega
      rw [List.take_of_length_le (by omega), hk0.1, ← hZ] at hes
      repeat' (first | with_reducible refine AKt.have ?_ | with_reducible refine AKt.tt ?_ | with_reducible refine AKt.ff ?_ | with_reducible refine AKt.yes (by assumption) ?_ | with_reducible refine AKt.no (by assumption) ?_ | with_reducible refine AKt.node (fun hb => ?_) (fun hb => ?_) | with_reducible refine AKt.need ?_ (fun hb => ?_) | with_reducible refine AKt.leaf ?_ | ((with_reducible show _ = true); assumption))
      refine AKp.freeze 0 rfl ?_
      conv => arg 4; arg 2; cbv
      refine AK.runT hF tabOK hmix hnt hfr false [] trivial ?_
      conv => arg 4; cbv
      have h1 : F .hasStr es = true := by rw [hF, f_hasStr, hes, strOf_bytes]; rfl
      have h2 : F .ofStr es = Z := by rw [hF, f_ofStr, hes, strOf_bytes]; rfl
      rw [h2]
      repeat' (first | with_reducible refine AKt.have ?_ | with_reducible refine AKt.tt ?_ | with_reducible refine AKt.ff ?_ | with_reducible refine AKt.yes (by assumption) ?_ | with_reducible refine AKt.no (by assumption) ?_ | with_reducible refine AKt.node (fun hb => ?_) (fun hb => ?_) | with_reducible refine AKt.need ?_ (fun hb => ?_) | with_reducible refine AKt.leaf ?_ | ((with_reducible show _ = true); assumption))
      exact AKp.doneE tabOK hfr (by rfl) (by rfl)
theorem rload_spec (s : List UInt8) (h : (leL s && decide ((wordsF s).getD 0 [] = loadW)) = true) : ESpec Tryd.prog 22 [.d (.s (.str s))] (fun x => x = .d (.s (.str (loadF s)))) := by
  simp only [Bool.and_eq_true, leL, decide_eq_true_eq] at h
  obtain ⟨hl, h0⟩ := h
  obtain ⟨w, r, hwr⟩ : ∃ w r, wordsF s = w :: r := by
    cases hw : wordsF s with
    | nil => rw [hw] at h0; exact absurd h0 (by decide)
    | cons w r => exact ⟨w, r, rfl⟩
  obtain ⟨n, rest, hs, hr⟩ := first_word hwr
  rw [hwr] at h0
  have h0 : w = loadW := h0
  subst h0
  have e : loadF s = swapB 59 10 (restF rest) := by rw [hs]; exact load_at n
  rw [e]
  have hlen : s.length = n + 4 + rest.length := by rw [hs]; simp [loadW]; omega
  rw [hs]
  exact rload_at n hr (by omega)
def φRLoad (p : List UInt8 → Bool) (u : List UInt8 → List UInt8) : List AV → Option (Bool × AV)
  | [.d (.s (.str s))] => some (p s, .d (.s (.str (u s))))
  | _ => none
theorem φRLoad_ok : SpOK Tryd.prog 22 (φRLoad (fun s => leL s && decide ((wordsF s).getD 0 [] = loadW)) (loadF)) := by
  intro xs b x h hb
  unfold φRLoad at h
  split at h
  · simp only [Option.some.injEq, Prod.mk.injEq] at h
    obtain ⟨rfl, rfl⟩ := h
    exact rload_spec _ hb
  · cases h
end Go.Proofs.YtmhkmoeailamlaaDoor

/- Events: what may be told, what is read: plain laws. -/
namespace Go.Proofs.YtmhkmoeailamlaaDoor
open Go Go.Proofs Go.Ua Go.Extern
set_option linter.unusedVariables false
set_option linter.unusedSimpArgs false

theorem words_join {ws : List (List UInt8)} (h : ∀ w, w ∈ ws → w ≠ [] ∧ (32 : UInt8) ∉ w) : wordsF (Lib.join ws [32]) = ws := by
  by_cases h0 : ws = []
  · subst h0; rw [Lib.join_nil]; rfl
  · unfold wordsF
    rw [cut_join h0 fun p hp => (h p hp).2]
    refine List.filter_eq_self.2 fun p hp => ?_
    simpa using (h p hp).1
theorem dig_word (n : Int) : digI n ≠ [] ∧ (32 : UInt8) ∉ digI n := by
  refine ⟨fun h => ?_, fun hm => ?_⟩
  · have := dig_pos n.toNat
    unfold digI at h
    rw [h] at this
    simp at this
  · have := List.all_eq_true.1 (dig_all n.toNat) 32 hm
    exact absurd this (by decide)
theorem num_digI {n lo hi : Int} (h0 : 0 ≤ n) (h1 : n ≤ 999999999) (hl : lo ≤ n) (hh : n ≤ hi) : numV (digI n) lo hi = n ∧ numB (digI n) lo hi = true := by
  have hv : ((valN (digI n) : Nat) : Int) = n := by unfold digI; rw [dig_val]; omega
  have hf : numForm (digI n) = true := num_of_dig (by omega)
  unfold numV numB numberF
  rw [hv, if_pos ⟨hf, hl, hh⟩]
  exact ⟨rfl, rfl⟩
theorem num_in {w : List UInt8} {lo hi : Int} (h : numB w lo hi = true) : 0 ≤ numV w lo hi ∧ lo ≤ numV w lo hi ∧ numV w lo hi ≤ hi ∧ digI (numV w lo hi) = w := by
  unfold numB numV numberF at *
  split at h
  · rename_i g
    rw [if_pos g]
    refine ⟨by show (0 : Int) ≤ (valN w : Int); omega, g.2.1, g.2.2, ?_⟩
    have g1 := g.1
    show Lib.decDigits ((valN w : Nat) : Int).toNat = w
    rw [Int.toNat_natCast]
    have hp := g1
    unfold numForm at hp
    simp only [Bool.and_eq_true, decide_eq_true_eq] at hp
    rw [num_dig hp.2 hp.1.1.2] at g1
    exact of_decide_eq_true g1
  · cases h
theorem listV_of {w : List UInt8} (h : listB w = true) : ∃ l, listF w = some l ∧ unStr (listV w) = l ∧ joinF l = w ∧ joinF l ≠ [] := by
  unfold listB at h
  obtain ⟨l, hl⟩ := Option.isSome_iff_exists.1 h
  refine ⟨l, hl, by rw [listV, hl, unStr_strDs]; rfl, join_list hl, ?_⟩
  rw [join_list hl]
  rintro rfl
  exact absurd h (by decide)
theorem list_of {l : List (List UInt8)} (h : joinF l ≠ []) : listB (joinF l) = true ∧ unStr (listV (joinF l)) = l := by
  have := list_join h
  exact ⟨by rw [listB, this]; rfl, by rw [listV, this, unStr_strDs]; rfl⟩
theorem join_no {l : List (List UInt8)} (h : joinF l ≠ []) : (32 : UInt8) ∉ joinF l := by
  unfold joinF at h ⊢
  split
  · rename_i hg
    split
    · decide
    · have hg' := hg
      unfold goodF at hg
      simp only [Bool.or_eq_true, beq_iff_eq, Bool.and_eq_true, List.all_eq_true] at hg
      rcases hg with rfl | ⟨⟨hw, _⟩, _⟩
      · decide
      · have key : ∀ m : List (List UInt8), (∀ x, x ∈ m → (32 : UInt8) ∉ x) → (32 : UInt8) ∉ Lib.join m [44] := by
          intro m
          induction m with
          | nil => intro _; rw [Lib.join_nil]; simp
          | cons a r ih =>
            intro hm
            cases r with
            | nil => rw [Lib.join_one]; exact hm a (by simp)
            | cons b r =>
              rw [join_cons2]
              simp only [List.mem_append, List.mem_cons, not_or]
              have := ih fun x hx => hm x (List.mem_cons_of_mem _ hx)
              first
                | exact ⟨hm a (by simp), by decide, this⟩
                | (simp; exact ⟨hm a (by simp), this⟩)
        exact key l fun x hx => (word_no (hw x hx)).2.1
  · simp

instance : DecidableEq Ev := fun a b => decidable_of_iff (a.k = b.k ∧ a.id = b.id ∧ a.n = b.n ∧ a.us = b.us ∧ a.gs = b.gs ∧ a.vb = b.vb ∧ a.rs = b.rs ∧ a.sp = b.sp ∧ a.ob = b.ob ∧ a.tx = b.tx)
  ⟨fun h => by cases a; cases b; simp_all, fun h => by subst h; simp⟩
def inB (n a b : Int) : Bool := decide (a ≤ n) && decide (n ≤ b)
/-- What may be told. -/
def refB (e : Ev) : Bool :=
  if e.k = 1 then decide (e.n = 0) && (decide (e.tx = []) && (inB e.id 0 999999999 && (inB e.ob 0 1048576 && (!decide (joinF e.gs = []) && (wordF e.us && (wordF e.vb && (wordF e.rs && (decide (e.sp = []) || wordF e.sp))))))))
  else if e.k = 2 ∨ e.k = 3 then decide (e = ⟨e.k, e.id, 0, [], [], [], [], [], 0, []⟩) && inB e.id 0 999999999
  else if e.k = 4 then decide (e = ⟨4, 0, e.n, [], [], [], [], [], 0, []⟩) && inB e.n 1 1000
  else if e.k = 5 then decide (e = ⟨5, 0, 0, [], [], [], [], [], 0, e.tx⟩) && !decide ((59 : UInt8) ∈ e.tx)
  else false

theorem inB_iff {n a b : Int} : inB n a b = true ↔ a ≤ n ∧ n ≤ b := by simp [inB]
theorem eN0 {w : List UInt8} {a b e : Int} (h : eN w a b e = 0) : numB w a b = true ∧ e = 0 := by
  unfold eN at h
  split at h
  · exact ⟨by assumption, h⟩
  · unfold failV at h; split at h <;> omega
theorem eW0 {w : List UInt8} {e : Int} (h : eW w e = 0) : wordF w = true ∧ e = 0 := by
  unfold eW at h
  split at h
  · exact ⟨by assumption, h⟩
  · unfold failV at h; split at h <;> omega
theorem eS0 {w : List UInt8} {e : Int} (h : eS w e = 0) : (w = [45] ∨ wordF w = true) ∧ e = 0 := by
  unfold eS at h
  split at h
  · rename_i g; exact ⟨by simpa using g, h⟩
  · unfold failV at h; split at h <;> omega
theorem eL0 {w : List UInt8} {e : Int} (h : eL w e = 0) : listB w = true ∧ e = 0 := by
  unfold eL at h
  split at h
  · exact ⟨by assumption, h⟩
  · unfold failV at h; split at h <;> omega
theorem swap_back {t : List UInt8} (h : (59 : UInt8) ∉ t) : swapB 59 10 (swapB 10 59 t) = t := by
  unfold swapB
  rw [List.map_map]
  conv => rhs; rw [← List.map_id t]
  refine List.map_congr_left fun x hx => ?_
  simp only [Function.comp, id]
  by_cases e : x = 10
  · subst e; rfl
  · rw [if_neg e, if_neg (fun e2 : x = 59 => h (e2 ▸ hx))]
theorem swap_no (t : List UInt8) : (59 : UInt8) ∉ swapB 59 10 t := by
  unfold swapB
  intro h
  obtain ⟨x, hx, e⟩ := List.mem_map.1 h
  split at e
  · exact absurd e (by decide)
  · exact absurd e (by assumption)
theorem swap_len (a b : UInt8) (t : List UInt8) : (swapB a b t).length = t.length := by simp [swapB]

theorem load_words (rest : List UInt8) (h : rest = [] ∨ ∃ t, rest = 32 :: t) : (wordsF ([108, 111, 97, 100] ++ rest)).getD 0 [] = [108, 111, 97, 100] ∧ (wordsF ([108, 111, 97, 100] ++ rest)).length ≠ 0 := by
  rcases h with rfl | ⟨t, rfl⟩
  · exact ⟨by decide, by decide⟩
  · have := words_app (p := [108, 111, 97, 100]) t (by decide)
    rw [show wordsF ([108, 111, 97, 100] ++ 32 :: t) = [108, 111, 97, 100] :: wordsF t from this]
    exact ⟨rfl, by simp⟩
theorem read_load (rest : List UInt8) (h : rest = [] ∨ ∃ t, rest = 32 :: t) : readV ([108, 111, 97, 100] ++ rest) = ⟨5, 0, 0, [], [], [], [], [], 0, swapB 59 10 (restF rest)⟩ ∧ readE ([108, 111, 97, 100] ++ rest) = 0 := by
  obtain ⟨h1, h2⟩ := load_words rest h
  have hl : loadF ([108, 111, 97, 100] ++ rest) = swapB 59 10 (restF rest) := load_at 0
  unfold readV readE readP
  rw [if_neg h2, if_pos h1, hl]
  exact ⟨rfl, rfl⟩
theorem two_words {a b : List UInt8} (ha : a ≠ [] ∧ (32 : UInt8) ∉ a) (hb : b ≠ [] ∧ (32 : UInt8) ∉ b) : wordsF (a ++ 32 :: b) = [a, b] := by
  have := words_join (ws := [a, b]) (by
    intro w hw
    simp only [List.mem_cons, List.not_mem_nil, or_false] at hw
    rcases hw with rfl | rfl <;> assumption)
  rw [join_cons2, Lib.join_one] at this
  exact this

/-- What may be told is read as it was told. -/
theorem ref_read {e : Ev} (h : refB e = true) : readV e.line = e ∧ readE e.line = 0 := by
  have h' := h
  unfold refB at h
  split at h
  · rename_i k1
    simp only [Bool.and_eq_true, Bool.or_eq_true, decide_eq_true_eq, inB_iff, Bool.not_eq_true', decide_eq_false_iff_not] at h
    obtain ⟨hn, ht, hi, ho, hg, hu, hv, hr, hs⟩ := h
    have hl : e.line = Lib.join (lineW e.id e.us e.gs e.vb e.rs e.sp e.ob) [32] := by rw [Ev.line, lineF, if_pos k1]
    have hsp : space e.sp ≠ [] ∧ (32 : UInt8) ∉ space e.sp ∧ (space e.sp = [45] ∨ wordF (space e.sp) = true) ∧ spV (space e.sp) = e.sp := by
      unfold space
      rcases hs with hs | hs
      · rw [hs]; exact ⟨by decide, by decide, .inl rfl, by decide⟩
      · have w1 := word_no hs
        have w2 : e.sp ≠ [45] := fun e1 => by rw [e1] at hs; exact absurd hs (by decide)
        rw [if_neg w1.1]
        exact ⟨w1.1, w1.2.1, .inr hs, by rw [spV, if_neg w2]⟩
    have hw : wordsF e.line = lineW e.id e.us e.gs e.vb e.rs e.sp e.ob := by
      rw [hl]
      refine words_join fun w hw => ?_
      simp only [lineW, List.mem_cons, List.not_mem_nil, or_false] at hw
      rcases hw with rfl | rfl | rfl | rfl | rfl | rfl | rfl | rfl
      · exact ⟨by decide, by decide⟩
      · exact dig_word _
      · exact ⟨(word_no hu).1, (word_no hu).2.1⟩
      · exact ⟨hg, join_no hg⟩
      · exact ⟨(word_no hv).1, (word_no hv).2.1⟩
      · exact ⟨(word_no hr).1, (word_no hr).2.1⟩
      · exact ⟨hsp.1, hsp.2.1⟩
      · exact dig_word _
    obtain ⟨n1, n2⟩ := num_digI (n := e.id) (lo := 0) (hi := 999999999) hi.1 hi.2 hi.1 hi.2
    obtain ⟨n3, n4⟩ := num_digI (n := e.ob) (lo := 0) (hi := 1048576) ho.1 (by omega) ho.1 ho.2
    obtain ⟨g1, g2⟩ := list_of hg
    have hE : newE (lineW e.id e.us e.gs e.vb e.rs e.sp e.ob) = 0 := by
      simp only [newE, lineW, List.getD_cons_zero, List.getD_cons_succ, eN, eW, eL, eS, n2, n4, g1, hu, hv, hr, if_true]
      have : (decide (space e.sp = [45]) || wordF (space e.sp)) = true := by simpa using hsp.2.2.1
      rw [this, if_pos rfl]
    have hV : newV (lineW e.id e.us e.gs e.vb e.rs e.sp e.ob) = e := by
      simp only [newV, lineW, List.getD_cons_zero, List.getD_cons_succ, n1, n3, g2, hsp.2.2.2]
      cases e
      simp_all
    have hp : readP e.line (wordsF e.line) = (e, 0) := by
      rw [hw]
      unfold readP
      rw [if_neg (by simp [lineW]), if_neg (by simp [lineW]), if_pos ⟨by simp [lineW], by simp [lineW]⟩, hE, hV]
      rfl
    unfold readV readE
    rw [hp]
    exact ⟨rfl, rfl⟩
  split at h
  · rename_i k1 k23
    simp only [Bool.and_eq_true, decide_eq_true_eq, inB_iff] at h
    obtain ⟨he, hi⟩ := h
    obtain ⟨n1, n2⟩ := num_digI (n := e.id) (lo := 0) (hi := 999999999) hi.1 hi.2 hi.1 hi.2
    rcases k23 with k | k
    · have hl : e.line = [100, 111, 110, 101] ++ 32 :: digI e.id := by rw [Ev.line, lineF, if_neg k1, if_pos k]; rfl
      have hp : readP e.line (wordsF e.line) = (e, 0) := by
        rw [hl, two_words ⟨by decide, by decide⟩ (dig_word _)]
        unfold readP
        rw [if_neg (by simp), if_neg (by simp), if_neg (by simp), if_pos (by simp)]
        simp only [List.getD_cons_zero, List.getD_cons_succ, eN, n1, n2, if_true, orE]
        rw [← k, ← he]
      unfold readV readE
      rw [hp]
      exact ⟨rfl, rfl⟩
    · have hl : e.line = [100, 114, 111, 112] ++ 32 :: digI e.id := by rw [Ev.line, lineF, if_neg k1, if_neg (by omega), if_pos k]; rfl
      have hp : readP e.line (wordsF e.line) = (e, 0) := by
        rw [hl, two_words ⟨by decide, by decide⟩ (dig_word _)]
        unfold readP
        rw [if_neg (by simp), if_neg (by simp), if_neg (by simp), if_neg (by simp), if_pos (by simp)]
        simp only [List.getD_cons_zero, List.getD_cons_succ, eN, n1, n2, if_true, orE]
        rw [← k, ← he]
      unfold readV readE
      rw [hp]
      exact ⟨rfl, rfl⟩
  split at h
  · rename_i k1 k23 k4
    simp only [Bool.and_eq_true, decide_eq_true_eq, inB_iff] at h
    obtain ⟨he, hi⟩ := h
    obtain ⟨n1, n2⟩ := num_digI (n := e.n) (lo := 1) (hi := 1000) (by omega) (by omega) hi.1 hi.2
    have hl : e.line = [116, 105, 99, 107] ++ 32 :: digI e.n := by rw [Ev.line, lineF, if_neg k1, if_neg (by omega), if_neg (by omega), if_pos k4]; rfl
    have hp : readP e.line (wordsF e.line) = (e, 0) := by
      rw [hl, two_words ⟨by decide, by decide⟩ (dig_word _)]
      unfold readP
      rw [if_neg (by simp), if_neg (by simp), if_neg (by simp), if_neg (by simp), if_neg (by simp), if_pos (by simp)]
      simp only [List.getD_cons_zero, List.getD_cons_succ, eN, n1, n2, if_true, orE]
      rw [← he]
    unfold readV readE
    rw [hp]
    exact ⟨rfl, rfl⟩
  split at h
  · rename_i k1 k23 k4 k5
    simp only [Bool.and_eq_true, decide_eq_true_eq, Bool.not_eq_true', decide_eq_false_iff_not] at h
    obtain ⟨he, ht⟩ := h
    have hl : e.line = [108, 111, 97, 100] ++ (if e.tx = [] then [] else 32 :: swapB 10 59 e.tx) := by
      rw [Ev.line, lineF, if_neg k1, if_neg (by omega), if_neg (by omega), if_neg k4]
      split
      · rfl
      · rw [replace_map (by decide)]; rfl
    obtain ⟨r1, r2⟩ := read_load (if e.tx = [] then [] else 32 :: swapB 10 59 e.tx) (by split; exact .inl rfl; exact .inr ⟨_, rfl⟩)
    rw [hl]
    refine ⟨?_, r2⟩
    rw [r1]
    have : swapB 59 10 (restF (if e.tx = [] then [] else 32 :: swapB 10 59 e.tx)) = e.tx := by
      split
      · rename_i h0; rw [h0]; rfl
      · exact swap_back ht
    rw [this]
    exact he.symm
  · cases h

theorem words_len {s : List UInt8} : ∀ {ws : List (List UInt8)}, wordsF s = ws → ws ≠ [] → (Lib.join ws [32]).length ≤ s.length := by
  have key : ∀ (n : Nat) (s : List UInt8), s.length ≤ n → wordsF s ≠ [] → (Lib.join (wordsF s) [32]).length ≤ s.length := by
    intro n
    induction n with
    | zero =>
      intro s hs h
      obtain rfl := List.length_eq_zero_iff.1 (Nat.le_zero.1 hs)
      exact absurd rfl h
    | succ n ih =>
      intro s hs h
      by_cases hi : Lib.indexByte s 32 = -1
      · have hno : (32 : UInt8) ∉ s := fun hm => by
          obtain ⟨k, hk⟩ := List.getElem?_of_mem hm
          exact Lib.indexByte_none hi k hk
        have hw : wordsF s = if s = [] then [] else [s] := words_none hno
        by_cases h0 : s = []
        · subst h0; exact absurd rfl h
        · rw [if_neg h0] at hw
          rw [hw, Lib.join_one]
          exact Nat.le_refl _
      · obtain ⟨i, hii⟩ : ∃ i : Nat, Lib.indexByte s 32 = i := ⟨(Lib.indexByte s 32).toNat, by have := Lib.indexByte_ge s 32; omega⟩
        obtain ⟨g1, g2⟩ := Lib.indexByte_some hii
        obtain ⟨k1, k2⟩ := List.getElem?_eq_some_iff.1 g1
        have hs2 : s = s.take i ++ 32 :: s.drop (i + 1) := by
          conv => lhs; rw [← List.take_append_drop i s, List.drop_eq_getElem_cons k1, k2]
        have hno : (32 : UInt8) ∉ s.take i := fun hm => by
          obtain ⟨k, hk⟩ := List.getElem?_of_mem hm
          rw [List.getElem?_take] at hk
          split at hk
          · exact g2 k (by assumption) hk
          · cases hk
        have hw : wordsF (s.take i ++ 32 :: s.drop (i + 1)) = (if s.take i = [] then [] else [s.take i]) ++ wordsF (s.drop (i + 1)) := words_app (p := s.take i) (s.drop (i + 1)) hno
        rw [← hs2] at hw
        have hlen : s.length = i + 1 + (s.drop (i + 1)).length := by simp; omega
        have ih' := ih (s.drop (i + 1)) (by omega)
        by_cases h0 : s.take i = []
        · rw [if_pos h0] at hw
          have hw' : wordsF s = wordsF (s.drop (i + 1)) := by simpa using hw
          rw [hw'] at h ⊢
          have := ih' h
          omega
        · rw [if_neg h0] at hw
          have hw' : wordsF s = s.take i :: wordsF (s.drop (i + 1)) := by simpa using hw
          rw [hw']
          cases hr : wordsF (s.drop (i + 1)) with
          | nil =>
            rw [Lib.join_one]
            simp
            omega
          | cons a r =>
            rw [hr] at ih'
            have := ih' (by simp)
            rw [join_cons2]
            simp at this ⊢
            omega
  intro ws h h0
  subst h
  exact key _ s (Nat.le_refl _) h0

/-- What is read may be told, in a line that is no longer. -/
theorem read_ref {s : List UInt8} (h : readE s = 0) : refB (readV s) = true ∧ (readV s).line.length ≤ s.length := by
  unfold readE at h
  unfold readV
  obtain ⟨ws, hws⟩ : ∃ z, z = wordsF s := ⟨_, rfl⟩
  rw [← hws] at h ⊢
  have orE0 : ∀ {v : Ev} {e : Int}, (orE v e).2 = 0 → e = 0 ∧ orE v e = (v, 0) := fun {v e} h => by
    unfold orE at h ⊢
    split at h
    · rename_i g; exact ⟨g, by rw [if_pos g]⟩
    · exact absurd h (by assumption)
  have two : ∀ {w : List UInt8}, ws.getD 0 [] = w → ws.length = 2 → ws = [w, ws.getD 1 []] := fun {w} h0 h2 => by
    match ws, h2 with
    | [a, b], _ =>
      simp only [List.getD_cons_zero] at h0
      rw [h0]; rfl
  unfold readP at h ⊢
  split at h
  · exact absurd h (by decide)
  rename_i h0
  have hne : ws ≠ [] := fun e => h0 (by rw [e]; rfl)
  rw [if_neg h0]
  split at h
  · rename_i hL
    rw [if_pos hL]
    obtain ⟨w, r, hwr⟩ : ∃ w r, ws = w :: r := by
      cases ws with
      | nil => exact absurd rfl hne
      | cons w r => exact ⟨w, r, rfl⟩
    have hw : w = [108, 111, 97, 100] := by rw [hwr] at hL; exact hL
    obtain ⟨n, rest, hs, hr⟩ := first_word (hws.symm.trans hwr)
    rw [hw] at hs
    have hl : loadF s = swapB 59 10 (restF rest) := by rw [hs]; exact load_at n
    have hno := swap_no (restF rest)
    refine ⟨?_, ?_⟩
    · unfold refB
      rw [if_neg (show ¬ (5 : Int) = 1 by decide), if_neg (show ¬ ((5 : Int) = 2 ∨ (5 : Int) = 3) by decide), if_neg (show ¬ (5 : Int) = 4 by decide), if_pos rfl, hl]
      simp [hno]
    · show (lineF 5 0 0 [] [] [] [] [] 0 (loadF s)).length ≤ _
      unfold lineF
      rw [if_neg (by decide), if_neg (by decide), if_neg (by decide), if_neg (by decide), hs]
      have hll : (swapB 59 10 (restF rest)).length = (restF rest).length := swap_len _ _ _
      rw [← hs, hl]
      split
      · rw [hs]; simp; omega
      · rename_i hne2
        rw [replace_map (by decide)]
        rcases hr with rfl | ⟨t, rfl⟩
        · exact absurd rfl hne2
        · rw [hs]
          simp [restF, swap_len]
          try omega
  rename_i hL
  rw [if_neg hL]
  have hlen := words_len hws.symm hne
  split at h
  · rename_i hN
    rw [if_pos hN]
    obtain ⟨he, hor⟩ := orE0 h
    rw [hor]
    obtain ⟨w0, w1, w2, w3, w4, w5, w6, w7, hw⟩ : ∃ a b c d e f g i, ws = [a, b, c, d, e, f, g, i] := by
      match ws, hN.2 with
      | [a, b, c, d, e, f, g, i], _ => exact ⟨a, b, c, d, e, f, g, i, rfl⟩
    have hw0 : w0 = [110, 101, 119] := by have := hN.1; rw [hw] at this; exact this
    rw [hw] at he hlen ⊢
    simp only [newE, List.getD_cons_zero, List.getD_cons_succ] at he
    obtain ⟨e7, he⟩ := eN0 he
    obtain ⟨e6, he⟩ := eS0 he
    obtain ⟨e5, he⟩ := eW0 he
    obtain ⟨e4, he⟩ := eW0 he
    obtain ⟨e3, he⟩ := eL0 he
    obtain ⟨e2, he⟩ := eW0 he
    obtain ⟨e1, _⟩ := eN0 he
    have n1 := num_in e1
    have n7 := num_in e7
    obtain ⟨l, l1, l2, l3, l4⟩ := listV_of e3
    have hsp : (spV w6 = [] ∨ wordF (spV w6) = true) ∧ space (spV w6) = w6 := by
      unfold spV
      rcases e6 with e6 | e6
      · rw [if_pos e6, e6]; exact ⟨.inl rfl, rfl⟩
      · have w2 : w6 ≠ [45] := fun e1 => by rw [e1] at e6; exact absurd e6 (by decide)
        rw [if_neg w2]
        refine ⟨.inr e6, ?_⟩
        rw [space, if_neg (word_no e6).1]
    refine ⟨?_, ?_⟩
    · unfold refB newV
      simp only [List.getD_cons_zero, List.getD_cons_succ, if_true, l2]
      simp [inB, n1, n7, l4, e2, e4, e5, hsp.1]
    · show (lineF 1 _ _ _ _ _ _ _ _ _).length ≤ _
      unfold lineF
      rw [if_pos rfl]
      show (Lib.join (lineW (newV _).id (newV _).us (newV _).gs (newV _).vb (newV _).rs (newV _).sp (newV _).ob) [32]).length ≤ _
      have : lineW (newV [w0, w1, w2, w3, w4, w5, w6, w7]).id (newV [w0, w1, w2, w3, w4, w5, w6, w7]).us (newV [w0, w1, w2, w3, w4, w5, w6, w7]).gs (newV [w0, w1, w2, w3, w4, w5, w6, w7]).vb (newV [w0, w1, w2, w3, w4, w5, w6, w7]).rs (newV [w0, w1, w2, w3, w4, w5, w6, w7]).sp (newV [w0, w1, w2, w3, w4, w5, w6, w7]).ob = [w0, w1, w2, w3, w4, w5, w6, w7] := by
        simp only [newV, lineW, List.getD_cons_zero, List.getD_cons_succ, l2, l3, hsp.2, n1.2.2.2, n7.2.2.2, hw0]
      rw [this]
      exact hlen
  rename_i hN
  rw [if_neg hN]
  have one : ∀ {k : Int} {w : List UInt8} {a b : Int} {v : Ev}, ws.getD 0 [] = w → ws.length = 2 → w.length = 4 → numB (ws.getD 1 []) a b = true → v.line = w ++ 32 :: digI (numV (ws.getD 1 []) a b) → v.line.length ≤ s.length := by
    intro k w a b v g0 g2 g4 gn gl
    rw [gl, (num_in gn).2.2.2]
    rw [two g0 g2, join_cons2, Lib.join_one] at hlen
    simpa using hlen
  split at h
  · rename_i hD
    rw [if_pos hD]
    obtain ⟨he, hor⟩ := orE0 h
    rw [hor]
    obtain ⟨e1, _⟩ := eN0 he
    have n1 := num_in e1
    obtain ⟨nv, hnv⟩ : ∃ z, z = numV (ws.getD 1 []) 0 999999999 := ⟨_, rfl⟩
    refine ⟨?_, ?_⟩
    · rw [← hnv] at n1 ⊢
      simp [refB, inB, n1]
    exact one (k := 0) hD.1 hD.2 rfl e1 rfl
  rename_i hD
  rw [if_neg hD]
  split at h
  · rename_i hR
    rw [if_pos hR]
    obtain ⟨he, hor⟩ := orE0 h
    rw [hor]
    obtain ⟨e1, _⟩ := eN0 he
    have n1 := num_in e1
    obtain ⟨nv, hnv⟩ : ∃ z, z = numV (ws.getD 1 []) 0 999999999 := ⟨_, rfl⟩
    refine ⟨?_, ?_⟩
    · rw [← hnv] at n1 ⊢
      simp [refB, inB, n1]
    exact one (k := 0) hR.1 hR.2 rfl e1 rfl
  rename_i hR
  rw [if_neg hR]
  split at h
  · rename_i hT
    rw [if_pos hT]
    obtain ⟨he, hor⟩ := orE0 h
    rw [hor]
    obtain ⟨e1, _⟩ := eN0 he
    have n1 := num_in e1
    obtain ⟨nv, hnv⟩ : ∃ z, z = numV (ws.getD 1 []) 1 1000 := ⟨_, rfl⟩
    refine ⟨?_, ?_⟩
    · rw [← hnv] at n1 ⊢
      simp [refB, inB, n1]
    exact one (k := 0) hT.1 hT.2 rfl e1 rfl
  · exact absurd h (by decide)
theorem read_none {s : List UInt8} (h : ¬ readE s = 0) : readV s = ev0 := by
  have key : ∀ (ws : List (List UInt8)) (p : Ev × Int), p = readP s ws → ¬ p.2 = 0 → p.1 = ev0 := by
    intro ws p hp h
    unfold readP at hp
    repeat' split at hp
    all_goals
      subst hp
      first
        | rfl
        | exact absurd rfl h
        | (unfold orE at h ⊢
           split
           · rename_i g; rw [if_pos g] at h; exact absurd rfl h
           · rfl)
  exact key _ _ rfl h

theorem joinF_inj {l m : List (List UInt8)} (h : joinF l = joinF m) (h0 : joinF m ≠ []) : l = m := by
  have h1 := list_join h0
  have h2 := list_join (l := l) (by rw [h]; exact h0)
  rw [h, h1] at h2
  exact (Option.some.inj h2).symm
theorem same_eq {e f : Ev} (h : e.same f = true) (hf : joinF f.gs ≠ []) : e = f := by
  simp only [Ev.same, sameF, Bool.and_eq_true, decide_eq_true_eq] at h
  obtain ⟨h1, h2, h3, h4, h5, h6, h7, h8, h9, h10⟩ := h
  have := joinF_inj h6 hf
  cases e; cases f
  simp_all
theorem same_refl (e : Ev) : e.same e = true := by simp [Ev.same, sameF]
theorem ref_join {e : Ev} (h : refB e = true) : joinF e.gs ≠ [] := by
  unfold refB at h
  split at h
  · simp only [Bool.and_eq_true, Bool.not_eq_true', decide_eq_false_iff_not] at h
    exact h.2.2.2.2.1
  have nil : joinF [] ≠ [] := by decide
  split at h
  · simp only [Bool.and_eq_true, decide_eq_true_eq] at h
    rw [h.1]; exact nil
  split at h
  · simp only [Bool.and_eq_true, decide_eq_true_eq] at h
    rw [h.1]; exact nil
  split at h
  · simp only [Bool.and_eq_true, decide_eq_true_eq] at h
    rw [h.1]; exact nil
  · cases h
theorem okW_ref (e : Ev) : okW e = refB e := by
  rw [Bool.eq_iff_iff]
  constructor
  · intro h
    simp only [okW, Bool.and_eq_true, decide_eq_true_eq] at h
    obtain ⟨h1, h2⟩ := h
    obtain ⟨g1, _⟩ := read_ref h1
    rw [same_eq h2 (ref_join g1)]
    exact g1
  · intro h
    obtain ⟨h1, h2⟩ := ref_read h
    rw [okW, h1, h2, same_refl]
    rfl
end Go.Proofs.YtmhkmoeailamlaaDoor
