/- The library of this claim and its walks, part 17, joined out of smaller texts. No statement stands in it. -/
import Derived.Test.YtlcgjeafmbbipaaDoorUaM16
import Derived.Laws.Bits64
import Derived.Laws.Bits64b
/- Hexadecimal digits, as the library prints them. -/
namespace Go.Proofs.YtlcgjeafmbbipaaDoor
open Go Go.Proofs Go.Ua Go.Extern
set_option linter.unusedVariables false
set_option linter.unusedSimpArgs false

def hexC (n : Nat) : UInt8 := if n < 10 then UInt8.ofNat (48 + n) else UInt8.ofNat (87 + n)
def hexD (n : Nat) : List UInt8 := if h : n < 16 then [hexC n] else hexD (n / 16) ++ [hexC (n % 16)]
termination_by n
decreasing_by omega
theorem hexD_small {n : Nat} (h : n < 16) : hexD n = [hexC n] := by rw [hexD, dif_pos h]
theorem hexD_big {n : Nat} (h : ¬ n < 16) : hexD n = hexD (n / 16) ++ [hexC (n % 16)] := by rw [hexD, dif_neg h]
def DIG : List UInt8 := [48, 49, 50, 51, 52, 53, 54, 55, 56, 57, 97, 98, 99, 100, 101, 102, 103, 104, 105, 106, 107, 108, 109, 110, 111, 112, 113, 114, 115, 116, 117, 118, 119, 120, 121, 122]
theorem dig_at : ∀ n : Nat, n < 16 → DIG[n]? = some (hexC n) := by decide
def bytesI (t : List Int) : List UInt8 := t.map fun n => UInt8.ofNat n.toNat
theorem strOf_ints : ∀ {t : List Int}, (∀ n, n ∈ t → 0 ≤ n ∧ n ≤ 255) → strOf (t.map fun n => Dat.s (.int .u8 n)) = some (bytesI t)
  | [], _ => rfl
  | n :: t, h => by
    have ih := strOf_ints (t := t) fun x hx => h x (List.mem_cons_of_mem _ hx)
    have hn := h n (by simp)
    simp only [List.map_cons, strOf]
    rw [ih]
    simp only
    have e : n = ((UInt8.ofNat n.toNat).toNat : Int) := by rw [UInt8.toNat_ofNat']; omega
    rw [if_pos e]
    rfl
section
variable {F : Fam} (hF : F = Fam.real)
include hF
theorem t_dig {n : Nat} {nv : Int} (h : n < 16) (hn : nv = n) : F .atS [48, 49, 50, 51, 52, 53, 54, 55, 56, 57, 97, 98, 99, 100, 101, 102, 103, 104, 105, 106, 107, 108, 109, 110, 111, 112, 113, 114, 115, 116, 117, 118, 119, 120, 121, 122] nv = ((hexC n).toNat : Int) := t_atS hF (dig_at n h) hn
theorem t_dig2 {n : Nat} {nv : Int} (h : n < 16) (hn : nv = n) : F .hasS [48, 49, 50, 51, 52, 53, 54, 55, 56, 57, 97, 98, 99, 100, 101, 102, 103, 104, 105, 106, 107, 108, 109, 110, 111, 112, 113, 114, 115, 116, 117, 118, 119, 120, 121, 122] nv = true := t_hasS hF (i := n) (by simp; omega) hn
theorem t_and15 {u : Nat} {uv : Int} (hu : uv = u) (h : u < 18446744073709551616) : F .bits .and .u64 uv 15 = ((u % 16 : Nat) : Int) := by
  rw [hF, hu]
  have := bits_and_u64_nat u 15 h (by decide)
  have e : (u &&& 15 : Nat) = u % 16 := Nat.and_two_pow_sub_one_eq_mod u 4
  rw [e] at this
  exact this
theorem t_shr4 {u : Nat} {uv : Int} (hu : uv = u) (h : u < 18446744073709551616) : F .shr .u64 uv 4 = some ((u / 16 : Nat) : Int) := by
  rw [hF, hu]
  show (if (4 : Int) < 0 then none else some (Int.fdiv (u : Int) (2 ^ (Min.min (4 : Int).toNat IntKind.u64.bits)))) = _
  rw [if_neg (by decide)]
  have : (2 : Int) ^ (Min.min (4 : Int).toNat IntKind.u64.bits) = 16 := by decide
  rw [this, Int.fdiv_eq_ediv_of_nonneg _ (by decide)]
  rfl
end

theorem fb_state (h k u : Nat) (t : List Int) (hh : hexD h = hexD u ++ bytesI t) (hu : 16 ≤ u) (ht : ∀ n, n ∈ t → 0 ≤ n ∧ n ≤ 255) :
    hexD h = hexD (u / 16) ++ bytesI (((hexC (u % 16)).toNat : Int) :: t) ∧ ∀ n, n ∈ ((hexC (u % 16)).toNat : Int) :: t → 0 ≤ n ∧ n ≤ 255 := by
  have hlt := UInt8.toNat_lt (hexC (u % 16))
  refine ⟨?_, fun n hn => ?_⟩
  · rw [hh, hexD_big (by omega)]
    simp [bytesI]
  · rcases List.mem_cons.1 hn with rfl | hn
    · omega
    · exact ht n hn
theorem fb_end (h u : Nat) (t : List Int) (hh : hexD h = hexD u ++ bytesI t) (hu : u < 16) (ht : ∀ n, n ∈ t → 0 ≤ n ∧ n ≤ 255) :
    bytesI (((hexC u).toNat : Int) :: t) = hexD h ∧ ∀ n, n ∈ ((hexC u).toNat : Int) :: t → 0 ≤ n ∧ n ≤ 255 := by
  have hlt := UInt8.toNat_lt (hexC u)
  refine ⟨?_, fun n hn => ?_⟩
  · rw [hh, hexD_small hu]
    simp [bytesI]
  · rcases List.mem_cons.1 hn with rfl | hn
    · omega
    · exact ht n hn

set_option maxRecDepth 20000 in
set_option maxHeartbeats 4000000 in
theorem formatBits16 (h : Nat) (hlt : h < 18446744073709551616) : ESpec Tryd.prog 83 [.d (.s .sl0), .d (.s (.int .u64 h)), .d (.s (.int .i64 16)), .d (.s (.bool false)), .d (.s (.bool false))] (fun x => x = .tup [.d (.s .sl0), .d (.s (.str (hexD h)))]) := by
  obtain ⟨hv, hhv⟩ : ∃ z : Int, z = h := ⟨_, rfl⟩
  rw [← hhv]
  refine ESpec.enter Tryd.func83 (by kernel_rfl) rfl (Nat.le_of_ble_eq_true rfl) fun _ cx hnt hfr => ?_
  obtain ⟨F, hF⟩ := real_ex
  refine AK.run hF tabOK hnt ?_
  conv => arg 4; cbv
  rw [show F .ltI 16 2 = false by rw [hF]; decide +kernel]
  conv => arg 4; cbv
  rw [show F .eqI 16 10 = false by rw [hF]; decide +kernel]
  conv => arg 4; cbv
  rw [show F .ltI 36 16 = false by rw [hF]; decide +kernel]
  conv => arg 4; cbv
  refine AKp.call hF tabOK hnt isPow_spec rfl rfl rfl rfl rfl rfl rfl (by repeat' first | exact .refl _ | constructor) ?_
  rintro _ rfl
  conv => arg 4; cbv
  rw [show F .wrap .u64 16 = 16 by rw [hF]; decide +kernel]
  conv => arg 4; cbv
  refine AKp.call hF tabOK hnt TZ_spec rfl rfl rfl rfl rfl rfl rfl (by repeat' first | exact .refl _ | constructor) ?_
  rintro _ rfl
  conv => arg 4; cbv
  rw [show F .wrap .u64 16 = 16 by rw [hF]; decide +kernel]
  rw [show F .wrap .u64 4 = 4 by rw [hF]; decide +kernel]
  rw [show F .wrap .u64 (F .sub 16 1) = 15 by rw [hF]; decide +kernel]
  refine AKp.enterLoop 30 ?_
  conv => arg 7; cbv
  refine AKl.inv hF tabOK hnt hfr (fun n vs hs => ∃ (k : Nat) (uv jv : Int) (t : List Int), uv = n ∧ jv = 65 - k ∧ t.length = k ∧ k ≤ 15 ∧ n < 16 ^ (16 - k) ∧ hexD h = hexD n ++ bytesI t ∧ (∀ n, n ∈ t → 0 ≤ n ∧ n ≤ 255) ∧ vs = [(1, .d (.s (.int .u64 uv))), (13, .d (.s (.int .i64 jv)))] ∧
      hs = [(0, .cs 131 (List.replicate (65 - k) (.d (.s (.int .u8 0))) ++ t.map fun n => AV.d (.s (.int .u8 n))))]) h
    ⟨0, hv, 65, [], hhv, rfl, rfl, by omega, hlt, by simp [bytesI], by simp, rfl, rfl⟩ (by repeat (first | exact True.intro | refine ⟨⟨rfl, rfl⟩, ?_⟩)) (by repeat (first | exact True.intro | refine ⟨⟨rfl, rfl, rfl⟩, ?_⟩)) ?_
  rintro J n vs hs hJ ⟨k, uv, jv, t, huv, hjv, hkt, hk15, hn16, hhex, ht, rfl, rfl⟩
  have hk : k = 0 ∨ k = 1 ∨ k = 2 ∨ k = 3 ∨ k = 4 ∨ k = 5 ∨ k = 6 ∨ k = 7 ∨ k = 8 ∨ k = 9 ∨ k = 10 ∨ k = 11 ∨ k = 12 ∨ k = 13 ∨ k = 14 ∨ k = 15 := by omega
  have hn64 : n < 18446744073709551616 := Nat.lt_of_lt_of_le hn16 (Nat.pow_le_pow_right (by decide) (show 16 - k ≤ 16 by omega))
  rcases hk with rfl | rfl | rfl | rfl | rfl | rfl | rfl | rfl | rfl | rfl | rfl | rfl | rfl | rfl | rfl | rfl
  · obtain rfl : t = [] := List.eq_nil_of_length_eq_zero hkt
    obtain rfl : jv = 65 := by omega
    conv => arg 4; cbv
    cases hb : F .leI 16 uv
    case' true =>
      have hle := leI1 hF hb
      obtain ⟨c, hc⟩ : ∃ z, z = ((hexC (n % 16)).toNat : Int) := ⟨_, rfl⟩
      obtain ⟨g1, g2⟩ := fb_state h 0 n _ hhex (by omega) ht
      rw [← hc] at g1 g2
      conv => arg 4; cbv
      rw [show F .getS [48, 49, 50, 51, 52, 53, 54, 55, 56, 57, 97, 98, 99, 100, 101, 102, 103, 104, 105, 106, 107, 108, 109, 110, 111, 112, 113, 114, 115, 116, 117, 118, 119, 120, 121, 122] (F .bits .and .u64 uv 15) = some c by rw [hc]; exact l_getS hF (dig_at (n % 16) (Nat.mod_lt _ (by decide))) (t_and15 hF huv hn64)]
      conv => arg 4; cbv
      rw [show F .wrap .i64 (F .sub 65 1) = 64 by rw [hF]; decide +kernel, show F .inB 64 65 = some 64 by rw [hF]; decide +kernel]
      conv => arg 4; cbv
      obtain ⟨u2, hu2⟩ : ∃ z : Int, z = ((n / 16 : Nat) : Int) := ⟨_, rfl⟩
      rw [t_shr4 hF huv hn64, ← hu2]
      conv => arg 4; cbv
      exact AKp.again _ hfr (by repeat (first | exact True.intro | refine ⟨⟨rfl, rfl⟩, ?_⟩)) (by repeat (first | exact True.intro | refine ⟨⟨rfl, rfl, rfl⟩, ?_⟩)) (hJ (n / 16) _ _ (by omega) ⟨1, _, _, [c], hu2, by omega, rfl, by omega, by have : n < 16 * 16 ^ 15 := hn16; omega, g1, g2, rfl, rfl⟩)
    case' false =>
      have hgt := leI0 hF hb
      obtain ⟨c, hc⟩ : ∃ z, z = ((hexC n).toNat : Int) := ⟨_, rfl⟩
      obtain ⟨g1, g2⟩ := fb_end h n _ hhex (by omega) ht
      rw [← hc] at g1 g2
      conv => arg 4; cbv
      rw [show F .getS [48, 49, 50, 51, 52, 53, 54, 55, 56, 57, 97, 98, 99, 100, 101, 102, 103, 104, 105, 106, 107, 108, 109, 110, 111, 112, 113, 114, 115, 116, 117, 118, 119, 120, 121, 122] uv = some c by rw [hc]; exact l_getS hF (dig_at n (by omega)) huv]
      conv => arg 4; cbv
      rw [show F .wrap .i64 (F .sub 65 1) = 64 by rw [hF]; decide +kernel, show F .inB 64 65 = some 64 by rw [hF]; decide +kernel]
      conv => arg 4; cbv
      refine AKp.sliceArr hF hnt 64 rfl rfl rfl rfl rfl rfl rfl (Nat.le_of_ble_eq_true rfl) (Nat.le_of_ble_eq_true rfl) (fun b w => by kernel_rfl) rfl ?_
      conv => arg 4; cbv
      obtain ⟨D, hD⟩ : ∃ D, D = hexD h := ⟨_, rfl⟩
      rw [← hD] at g1 ⊢
      rw [show F .strD [.s (.int .u8 c)] = some D by rw [← g1, hF]; exact strOf_ints g2]
      conv => arg 4; cbv
      exact AKp.doneE tabOK hfr (by rfl) (by rfl)
  · obtain ⟨a0, rfl⟩ : ∃ a0 : Int, t = [a0] := by
      match t, hkt with
      | [a0], _ => exact ⟨a0, rfl⟩
    obtain rfl : jv = 64 := by omega
    conv => arg 4; cbv
    cases hb : F .leI 16 uv
    case' true =>
      have hle := leI1 hF hb
      obtain ⟨c, hc⟩ : ∃ z, z = ((hexC (n % 16)).toNat : Int) := ⟨_, rfl⟩
      obtain ⟨g1, g2⟩ := fb_state h 0 n _ hhex (by omega) ht
      rw [← hc] at g1 g2
      conv => arg 4; cbv
      rw [show F .getS [48, 49, 50, 51, 52, 53, 54, 55, 56, 57, 97, 98, 99, 100, 101, 102, 103, 104, 105, 106, 107, 108, 109, 110, 111, 112, 113, 114, 115, 116, 117, 118, 119, 120, 121, 122] (F .bits .and .u64 uv 15) = some c by rw [hc]; exact l_getS hF (dig_at (n % 16) (Nat.mod_lt _ (by decide))) (t_and15 hF huv hn64)]
      conv => arg 4; cbv
      rw [show F .wrap .i64 (F .sub 64 1) = 63 by rw [hF]; decide +kernel, show F .inB 63 65 = some 63 by rw [hF]; decide +kernel]
      conv => arg 4; cbv
      obtain ⟨u2, hu2⟩ : ∃ z : Int, z = ((n / 16 : Nat) : Int) := ⟨_, rfl⟩
      rw [t_shr4 hF huv hn64, ← hu2]
      conv => arg 4; cbv
      exact AKp.again _ hfr (by repeat (first | exact True.intro | refine ⟨⟨rfl, rfl⟩, ?_⟩)) (by repeat (first | exact True.intro | refine ⟨⟨rfl, rfl, rfl⟩, ?_⟩)) (hJ (n / 16) _ _ (by omega) ⟨2, _, _, [c, a0], hu2, by omega, rfl, by omega, by have : n < 16 * 16 ^ 14 := hn16; omega, g1, g2, rfl, rfl⟩)
    case' false =>
      have hgt := leI0 hF hb
      obtain ⟨c, hc⟩ : ∃ z, z = ((hexC n).toNat : Int) := ⟨_, rfl⟩
      obtain ⟨g1, g2⟩ := fb_end h n _ hhex (by omega) ht
      rw [← hc] at g1 g2
      conv => arg 4; cbv
      rw [show F .getS [48, 49, 50, 51, 52, 53, 54, 55, 56, 57, 97, 98, 99, 100, 101, 102, 103, 104, 105, 106, 107, 108, 109, 110, 111, 112, 113, 114, 115, 116, 117, 118, 119, 120, 121, 122] uv = some c by rw [hc]; exact l_getS hF (dig_at n (by omega)) huv]
      conv => arg 4; cbv
      rw [show F .wrap .i64 (F .sub 64 1) = 63 by rw [hF]; decide +kernel, show F .inB 63 65 = some 63 by rw [hF]; decide +kernel]
      conv => arg 4; cbv
      refine AKp.sliceArr hF hnt 63 rfl rfl rfl rfl rfl rfl rfl (Nat.le_of_ble_eq_true rfl) (Nat.le_of_ble_eq_true rfl) (fun b w => by kernel_rfl) rfl ?_
      conv => arg 4; cbv
      obtain ⟨D, hD⟩ : ∃ D, D = hexD h := ⟨_, rfl⟩
      rw [← hD] at g1 ⊢
      rw [show F .strD [.s (.int .u8 c), .s (.int .u8 a0)] = some D by rw [← g1, hF]; exact strOf_ints g2]
      conv => arg 4; cbv
      exact AKp.doneE tabOK hfr (by rfl) (by rfl)
  · obtain ⟨a0, a1, rfl⟩ : ∃ a0 a1 : Int, t = [a0, a1] := by
      match t, hkt with
      | [a0, a1], _ => exact ⟨a0, a1, rfl⟩
    obtain rfl : jv = 63 := by omega
    conv => arg 4; cbv
    cases hb : F .leI 16 uv
    case' true =>
      have hle := leI1 hF hb
      obtain ⟨c, hc⟩ : ∃ z, z = ((hexC (n % 16)).toNat : Int) := ⟨_, rfl⟩
      obtain ⟨g1, g2⟩ := fb_state h 0 n _ hhex (by omega) ht
      rw [← hc] at g1 g2
      conv => arg 4; cbv
      rw [show F .getS [48, 49, 50, 51, 52, 53, 54, 55, 56, 57, 97, 98, 99, 100, 101, 102, 103, 104, 105, 106, 107, 108, 109, 110, 111, 112, 113, 114, 115, 116, 117, 118, 119, 120, 121, 122] (F .bits .and .u64 uv 15) = some c by rw [hc]; exact l_getS hF (dig_at (n % 16) (Nat.mod_lt _ (by decide))) (t_and15 hF huv hn64)]
      conv => arg 4; cbv
      rw [show F .wrap .i64 (F .sub 63 1) = 62 by rw [hF]; decide +kernel, show F .inB 62 65 = some 62 by rw [hF]; decide +kernel]
      conv => arg 4; cbv
      obtain ⟨u2, hu2⟩ : ∃ z : Int, z = ((n / 16 : Nat) : Int) := ⟨_, rfl⟩
      rw [t_shr4 hF huv hn64, ← hu2]
      conv => arg 4; cbv
      exact AKp.again _ hfr (by repeat (first | exact True.intro | refine ⟨⟨rfl, rfl⟩, ?_⟩)) (by repeat (first | exact True.intro | refine ⟨⟨rfl, rfl, rfl⟩, ?_⟩)) (hJ (n / 16) _ _ (by omega) ⟨3, _, _, [c, a0, a1], hu2, by omega, rfl, by omega, by have : n < 16 * 16 ^ 13 := hn16; omega, g1, g2, rfl, rfl⟩)
    case' false =>
      have hgt := leI0 hF hb
      obtain ⟨c, hc⟩ : ∃ z, z = ((hexC n).toNat : Int) := ⟨_, rfl⟩
      obtain ⟨g1, g2⟩ := fb_end h n _ hhex (by omega) ht
      rw [← hc] at g1 g2
      conv => arg 4; cbv
      rw [show F .getS [48, 49, 50, 51, 52, 53, 54, 55, 56, 57, 97, 98, 99, 100, 101, 102, 103, 104, 105, 106, 107, 108, 109, 110, 111, 112, 113, 114, 115, 116, 117, 118, 119, 120, 121, 122] uv = some c by rw [hc]; exact l_getS hF (dig_at n (by omega)) huv]
      conv => arg 4; cbv
      rw [show F .wrap .i64 (F .sub 63 1) = 62 by rw [hF]; decide +kernel, show F .inB 62 65 = some 62 by rw [hF]; decide +kernel]
      conv => arg 4; cbv
      refine AKp.sliceArr hF hnt 62 rfl rfl rfl rfl rfl rfl rfl (Nat.le_of_ble_eq_true rfl) (Nat.le_of_ble_eq_true rfl) (fun b w => by kernel_rfl) rfl ?_
      conv => arg 4; cbv
      obtain ⟨D, hD⟩ : ∃ D, D = hexD h := ⟨_, rfl⟩
      rw [← hD] at g1 ⊢
      rw [show F .strD [.s (.int .u8 c), .s (.int .u8 a0), .s (.int .u8 a1)] = some D by rw [← g1, hF]; exact strOf_ints g2]
      conv => arg 4; cbv
      exact AKp.doneE tabOK hfr (by rfl) (by rfl)
  · obtain ⟨a0, a1, a2, rfl⟩ : ∃ a0 a1 a2 : Int, t = [a0, a1, a2] := by
      match t, hkt with
      | [a0, a1, a2], _ => exact ⟨a0, a1, a2, rfl⟩
    obtain rfl : jv = 62 := by omega
    conv => arg 4; cbv
    cases hb : F .leI 16 uv
    case' true =>
      have hle := leI1 hF hb
      obtain ⟨c, hc⟩ : ∃ z, z = ((hexC (n % 16)).toNat : Int) := ⟨_, rfl⟩
      obtain ⟨g1, g2⟩ := fb_state h 0 n _ hhex (by omega) ht
      rw [← hc] at g1 g2
      conv => arg 4; cbv
      rw [show F .getS [48, 49, 50, 51, 52, 53, 54, 55, 56, 57, 97, 98, 99, 100, 101, 102, 103, 104, 105, 106, 107, 108, 109, 110, 111, 112, 113, 114, 115, 116, 117, 118, 119, 120, 121, 122] (F .bits .and .u64 uv 15) = some c by rw [hc]; exact l_getS hF (dig_at (n % 16) (Nat.mod_lt _ (by decide))) (t_and15 hF huv hn64)]
      conv => arg 4; cbv
      rw [show F .wrap .i64 (F .sub 62 1) = 61 by rw [hF]; decide +kernel, show F .inB 61 65 = some 61 by rw [hF]; decide +kernel]
      conv => arg 4; cbv
      obtain ⟨u2, hu2⟩ : ∃ z : Int, z = ((n / 16 : Nat) : Int) := ⟨_, rfl⟩
      rw [t_shr4 hF huv hn64, ← hu2]
      conv => arg 4; cbv
      exact AKp.again _ hfr (by repeat (first | exact True.intro | refine ⟨⟨rfl, rfl⟩, ?_⟩)) (by repeat (first | exact True.intro | refine ⟨⟨rfl, rfl, rfl⟩, ?_⟩)) (hJ (n / 16) _ _ (by omega) ⟨4, _, _, [c, a0, a1, a2], hu2, by omega, rfl, by omega, by have : n < 16 * 16 ^ 12 := hn16; omega, g1, g2, rfl, rfl⟩)
    case' false =>
      have hgt := leI0 hF hb
      obtain ⟨c, hc⟩ : ∃ z, z = ((hexC n).toNat : Int) := ⟨_, rfl⟩
      obtain ⟨g1, g2⟩ := fb_end h n _ hhex (by omega) ht
      rw [← hc] at g1 g2
      conv => arg 4; cbv
      rw [show F .getS [48, 49, 50, 51, 52, 53, 54, 55, 56, 57, 97, 98, 99, 100, 101, 102, 103, 104, 105, 106, 107, 108, 109, 110, 111, 112, 113, 114, 115, 116, 117, 118, 119, 120, 121, 122] uv = some c by rw [hc]; exact l_getS hF (dig_at n (by omega)) huv]
      conv => arg 4; cbv
      rw [show F .wrap .i64 (F .sub 62 1) = 61 by rw [hF]; decide +kernel, show F .inB 61 65 = some 61 by rw [hF]; decide +kernel]
      conv => arg 4; cbv
      refine AKp.sliceArr hF hnt 61 rfl rfl rfl rfl rfl rfl rfl (Nat.le_of_ble_eq_true rfl) (Nat.le_of_ble_eq_true rfl) (fun b w => by kernel_rfl) rfl ?_
      conv => arg 4; cbv
      obtain ⟨D, hD⟩ : ∃ D, D = hexD h := ⟨_, rfl⟩
      rw [← hD] at g1 ⊢
      rw [show F .strD [.s (.int .u8 c), .s (.int .u8 a0), .s (.int .u8 a1), .s (.int .u8 a2)] = some D by rw [← g1, hF]; exact strOf_ints g2]
      conv => arg 4; cbv
      exact AKp.doneE tabOK hfr (by rfl) (by rfl)
  · obtain ⟨a0, a1, a2, a3, rfl⟩ : ∃ a0 a1 a2 a3 : Int, t = [a0, a1, a2, a3] := by
      match t, hkt with
      | [a0, a1, a2, a3], _ => exact ⟨a0, a1, a2, a3, rfl⟩
    obtain rfl : jv = 61 := by omega
    conv => arg 4; cbv
    cases hb : F .leI 16 uv
    case' true =>
      have hle := leI1 hF hb
      obtain ⟨c, hc⟩ : ∃ z, z = ((hexC (n % 16)).toNat : Int) := ⟨_, rfl⟩
      obtain ⟨g1, g2⟩ := fb_state h 0 n _ hhex (by omega) ht
      rw [← hc] at g1 g2
      conv => arg 4; cbv
      rw [show F .getS [48, 49, 50, 51, 52, 53, 54, 55, 56, 57, 97, 98, 99, 100, 101, 102, 103, 104, 105, 106, 107, 108, 109, 110, 111, 112, 113, 114, 115, 116, 117, 118, 119, 120, 121, 122] (F .bits .and .u64 uv 15) = some c by rw [hc]; exact l_getS hF (dig_at (n % 16) (Nat.mod_lt _ (by decide))) (t_and15 hF huv hn64)]
      conv => arg 4; cbv
      rw [show F .wrap .i64 (F .sub 61 1) = 60 by rw [hF]; decide +kernel, show F .inB 60 65 = some 60 by rw [hF]; decide +kernel]
      conv => arg 4; cbv
      obtain ⟨u2, hu2⟩ : ∃ z : Int, z = ((n / 16 : Nat) : Int) := ⟨_, rfl⟩
      rw [t_shr4 hF huv hn64, ← hu2]
      conv => arg 4; cbv
      exact AKp.again _ hfr (by repeat (first | exact True.intro | refine ⟨⟨rfl, rfl⟩, ?_⟩)) (by repeat (first | exact True.intro | refine ⟨⟨rfl, rfl, rfl⟩, ?_⟩)) (hJ (n / 16) _ _ (by omega) ⟨5, _, _, [c, a0, a1, a2, a3], hu2, by omega, rfl, by omega, by have : n < 16 * 16 ^ 11 := hn16; omega, g1, g2, rfl, rfl⟩)
    case' false =>
      have hgt := leI0 hF hb
      obtain ⟨c, hc⟩ : ∃ z, z = ((hexC n).toNat : Int) := ⟨_, rfl⟩
      obtain ⟨g1, g2⟩ := fb_end h n _ hhex (by omega) ht
      rw [← hc] at g1 g2
      conv => arg 4; cbv
      rw [show F .getS [48, 49, 50, 51, 52, 53, 54, 55, 56, 57, 97, 98, 99, 100, 101, 102, 103, 104, 105, 106, 107, 108, 109, 110, 111, 112, 113, 114, 115, 116, 117, 118, 119, 120, 121, 122] uv = some c by rw [hc]; exact l_getS hF (dig_at n (by omega)) huv]
      conv => arg 4; cbv
      rw [show F .wrap .i64 (F .sub 61 1) = 60 by rw [hF]; decide +kernel, show F .inB 60 65 = some 60 by rw [hF]; decide +kernel]
      conv => arg 4; cbv
      refine AKp.sliceArr hF hnt 60 rfl rfl rfl rfl rfl rfl rfl (Nat.le_of_ble_eq_true rfl) (Nat.le_of_ble_eq_true rfl) (fun b w => by kernel_rfl) rfl ?_
      conv => arg 4; cbv
      obtain ⟨D, hD⟩ : ∃ D, D = hexD h := ⟨_, rfl⟩
      rw [← hD] at g1 ⊢
      rw [show F .strD [.s (.int .u8 c), .s (.int .u8 a0), .s (.int .u8 a1), .s (.int .u8 a2), .s (.int .u8 a3)] = some D by rw [← g1, hF]; exact strOf_ints g2]
      conv => arg 4; cbv
      exact AKp.doneE tabOK hfr (by rfl) (by rfl)
  · obtain ⟨a0, a1, a2, a3, a4, rfl⟩ : ∃ a0 a1 a2 a3 a4 : Int, t = [a0, a1, a2, a3, a4] := by
      match t, hkt with
      | [a0, a1, a2, a3, a4], _ => exact ⟨a0, a1, a2, a3, a4, rfl⟩
    obtain rfl : jv = 60 := by omega
    conv => arg 4; cbv
    cases hb : F .leI 16 uv
    case' true =>
      have hle := leI1 hF hb
      obtain ⟨c, hc⟩ : ∃ z, z = ((hexC (n % 16)).toNat : Int) := ⟨_, rfl⟩
      obtain ⟨g1, g2⟩ := fb_state h 0 n _ hhex (by omega) ht
      rw [← hc] at g1 g2
      conv => arg 4; cbv
      rw [show F .getS [48, 49, 50, 51, 52, 53, 54, 55, 56, 57, 97, 98, 99, 100, 101, 102, 103, 104, 105, 106, 107, 108, 109, 110, 111, 112, 113, 114, 115, 116, 117, 118, 119, 120, 121, 122] (F .bits .and .u64 uv 15) = some c by rw [hc]; exact l_getS hF (dig_at (n % 16) (Nat.mod_lt _ (by decide))) (t_and15 hF huv hn64)]
      conv => arg 4; cbv
      rw [show F .wrap .i64 (F .sub 60 1) = 59 by rw [hF]; decide +kernel, show F .inB 59 65 = some 59 by rw [hF]; decide +kernel]
      conv => arg 4; cbv
      obtain ⟨u2, hu2⟩ : ∃ z : Int, z = ((n / 16 : Nat) : Int) := ⟨_, rfl⟩
      rw [t_shr4 hF huv hn64, ← hu2]
      conv => arg 4; cbv
      exact AKp.again _ hfr (by repeat (first | exact True.intro | refine ⟨⟨rfl, rfl⟩, ?_⟩)) (by repeat (first | exact True.intro | refine ⟨⟨rfl, rfl, rfl⟩, ?_⟩)) (hJ (n / 16) _ _ (by omega) ⟨6, _, _, [c, a0, a1, a2, a3, a4], hu2, by omega, rfl, by omega, by have : n < 16 * 16 ^ 10 := hn16; omega, g1, g2, rfl, rfl⟩)
    case' false =>
      have hgt := leI0 hF hb
      obtain ⟨c, hc⟩ : ∃ z, z = ((hexC n).toNat : Int) := ⟨_, rfl⟩
      obtain ⟨g1, g2⟩ := fb_end h n _ hhex (by omega) ht
      rw [← hc] at g1 g2
      conv => arg 4; cbv
      rw [show F .getS [48, 49, 50, 51, 52, 53, 54, 55, 56, 57, 97, 98, 99, 100, 101, 102, 103, 104, 105, 106, 107, 108, 109, 110, 111, 112, 113, 114, 115, 116, 117, 118, 119, 120, 121, 122] uv = some c by rw [hc]; exact l_getS hF (dig_at n (by omega)) huv]
      conv => arg 4; cbv
      rw [show F .wrap .i64 (F .sub 60 1) = 59 by rw [hF]; decide +kernel, show F .inB 59 65 = some 59 by rw [hF]; decide +kernel]
      conv => arg 4; cbv
      refine AKp.sliceArr hF hnt 59 rfl rfl rfl rfl rfl rfl rfl (Nat.le_of_ble_eq_true rfl) (Nat.le_of_ble_eq_true rfl) (fun b w => by kernel_rfl) rfl ?_
      conv => arg 4; cbv
      obtain ⟨D, hD⟩ : ∃ D, D = hexD h := ⟨_, rfl⟩
      rw [← hD] at g1 ⊢
      rw [show F .strD [.s (.int .u8 c), .s (.int .u8 a0), .s (.int .u8 a1), .s (.int .u8 a2), .s (.int .u8 a3), .s (.int .u8 a4)] = some D by rw [← g1, hF]; exact strOf_ints g2]
      conv => arg 4; cbv
      exact AKp.doneE tabOK hfr (by rfl) (by rfl)
  · obtain ⟨a0, a1, a2, a3, a4, a5, rfl⟩ : ∃ a0 a1 a2 a3 a4 a5 : Int, t = [a0, a1, a2, a3, a4, a5] := by
      match t, hkt with
      | [a0, a1, a2, a3, a4, a5], _ => exact ⟨a0, a1, a2, a3, a4, a5, rfl⟩
    obtain rfl : jv = 59 := by omega
    conv => arg 4; cbv
    cases hb : F .leI 16 uv
    case' true =>
      have hle := leI1 hF hb
      obtain ⟨c, hc⟩ : ∃ z, z = ((hexC (n % 16)).toNat : Int) := ⟨_, rfl⟩
      obtain ⟨g1, g2⟩ := fb_state h 0 n _ hhex (by omega) ht
      rw [← hc] at g1 g2
      conv => arg 4; cbv
      rw [show F .getS [48, 49, 50, 51, 52, 53, 54, 55, 56, 57, 97, 98, 99, 100, 101, 102, 103, 104, 105, 106, 107, 108, 109, 110, 111, 112, 113, 114, 115, 116, 117, 118, 119, 120, 121, 122] (F .bits .and .u64 uv 15) = some c by rw [hc]; exact l_getS hF (dig_at (n % 16) (Nat.mod_lt _ (by decide))) (t_and15 hF huv hn64)]
      conv => arg 4; cbv
      rw [show F .wrap .i64 (F .sub 59 1) = 58 by rw [hF]; decide +kernel, show F .inB 58 65 = some 58 by rw [hF]; decide +kernel]
      conv => arg 4; cbv
      obtain ⟨u2, hu2⟩ : ∃ z : Int, z = ((n / 16 : Nat) : Int) := ⟨_, rfl⟩
      rw [t_shr4 hF huv hn64, ← hu2]
      conv => arg 4; cbv
      exact AKp.again _ hfr (by repeat (first | exact True.intro | refine ⟨⟨rfl, rfl⟩, ?_⟩)) (by repeat (first | exact True.intro | refine ⟨⟨rfl, rfl, rfl⟩, ?_⟩)) (hJ (n / 16) _ _ (by omega) ⟨7, _, _, [c, a0, a1, a2, a3, a4, a5], hu2, by omega, rfl, by omega, by have : n < 16 * 16 ^ 9 := hn16; omega, g1, g2, rfl, rfl⟩)
    case' false =>
      have hgt := leI0 hF hb
      obtain ⟨c, hc⟩ : ∃ z, z = ((hexC n).toNat : Int) := ⟨_, rfl⟩
      obtain ⟨g1, g2⟩ := fb_end h n _ hhex (by omega) ht
      rw [← hc] at g1 g2
      conv => arg 4; cbv
      rw [show F .getS [48, 49, 50, 51, 52, 53, 54, 55, 56, 57, 97, 98, 99, 100, 101, 102, 103, 104, 105, 106, 107, 108, 109, 110, 111, 112, 113, 114, 115, 116, 117, 118, 119, 120, 121, 122] uv = some c by rw [hc]; exact l_getS hF (dig_at n (by omega)) huv]
      conv => arg 4; cbv
      rw [show F .wrap .i64 (F .sub 59 1) = 58 by rw [hF]; decide +kernel, show F .inB 58 65 = some 58 by rw [hF]; decide +kernel]
      conv => arg 4; cbv
      refine AKp.sliceArr hF hnt 58 rfl rfl rfl rfl rfl rfl rfl (Nat.le_of_ble_eq_true rfl) (Nat.le_of_ble_eq_true rfl) (fun b w => by kernel_rfl) rfl ?_
      conv => arg 4; cbv
      obtain ⟨D, hD⟩ : ∃ D, D = hexD h := ⟨_, rfl⟩
      rw [← hD] at g1 ⊢
      rw [show F .strD [.s (.int .u8 c), .s (.int .u8 a0), .s (.int .u8 a1), .s (.int .u8 a2), .s (.int .u8 a3), .s (.int .u8 a4), .s (.int .u8 a5)] = some D by rw [← g1, hF]; exact strOf_ints g2]
      conv => arg 4; cbv
      exact AKp.doneE tabOK hfr (by rfl) (by rfl)
  · obtain ⟨a0, a1, a2, a3, a4, a5, a6, rfl⟩ : ∃ a0 a1 a2 a3 a4 a5 a6 : Int, t = [a0, a1, a2, a3, a4, a5, a6] := by
      match t, hkt with
      | [a0, a1, a2, a3, a4, a5, a6], _ => exact ⟨a0, a1, a2, a3, a4, a5, a6, rfl⟩
    obtain rfl : jv = 58 := by omega
    conv => arg 4; cbv
    cases hb : F .leI 16 uv
    case' true =>
      have hle := leI1 hF hb
      obtain ⟨c, hc⟩ : ∃ z, z = ((hexC (n % 16)).toNat : Int) := ⟨_, rfl⟩
      obtain ⟨g1, g2⟩ := fb_state h 0 n _ hhex (by omega) ht
      rw [← hc] at g1 g2
      conv => arg 4; cbv
      rw [show F .getS [48, 49, 50, 51, 52, 53, 54, 55, 56, 57, 97, 98, 99, 100, 101, 102, 103, 104, 105, 106, 107, 108, 109, 110, 111, 112, 113, 114, 115, 116, 117, 118, 119, 120, 121, 122] (F .bits .and .u64 uv 15) = some c by rw [hc]; exact l_getS hF (dig_at (n % 16) (Nat.mod_lt _ (by decide))) (t_and15 hF huv hn64)]
      conv => arg 4; cbv
      rw [show F .wrap .i64 (F .sub 58 1) = 57 by rw [hF]; decide +kernel, show F .inB 57 65 = some 57 by rw [hF]; decide +kernel]
      conv => arg 4; cbv
      obtain ⟨u2, hu2⟩ : ∃ z : Int, z = ((n / 16 : Nat) : Int) := ⟨_, rfl⟩
      rw [t_shr4 hF huv hn64, ← hu2]
      conv => arg 4; cbv
      exact AKp.again _ hfr (by repeat (first | exact True.intro | refine ⟨⟨rfl, rfl⟩, ?_⟩)) (by repeat (first | exact True.intro | refine ⟨⟨rfl, rfl, rfl⟩, ?_⟩)) (hJ (n / 16) _ _ (by omega) ⟨8, _, _, [c, a0, a1, a2, a3, a4, a5, a6], hu2, by omega, rfl, by omega, by have : n < 16 * 16 ^ 8 := hn16; omega, g1, g2, rfl, rfl⟩)
    case' false =>
      have hgt := leI0 hF hb
      obtain ⟨c, hc⟩ : ∃ z, z = ((hexC n).toNat : Int) := ⟨_, rfl⟩
      obtain ⟨g1, g2⟩ := fb_end h n _ hhex (by omega) ht
      rw [← hc] at g1 g2
      conv => arg 4; cbv
      rw [show F .getS [48, 49, 50, 51, 52, 53, 54, 55, 56, 57, 97, 98, 99, 100, 101, 102, 103, 104, 105, 106, 107, 108, 109, 110, 111, 112, 113, 114, 115, 116, 117, 118, 119, 120, 121, 122] uv = some c by rw [hc]; exact l_getS hF (dig_at n (by omega)) huv]
      conv => arg 4; cbv
      rw [show F .wrap .i64 (F .sub 58 1) = 57 by rw [hF]; decide +kernel, show F .inB 57 65 = some 57 by rw [hF]; decide +kernel]
      conv => arg 4; cbv
      refine AKp.sliceArr hF hnt 57 rfl rfl rfl rfl rfl rfl rfl (Nat.le_of_ble_eq_true rfl) (Nat.le_of_ble_eq_true rfl) (fun b w => by kernel_rfl) rfl ?_
      conv => arg 4; cbv
      obtain ⟨D, hD⟩ : ∃ D, D = hexD h := ⟨_, rfl⟩
      rw [← hD] at g1 ⊢
      rw [show F .strD [.s (.int .u8 c), .s (.int .u8 a0), .s (.int .u8 a1), .s (.int .u8 a2), .s (.int .u8 a3), .s (.int .u8 a4), .s (.int .u8 a5), .s (.int .u8 a6)] = some D by rw [← g1, hF]; exact strOf_ints g2]
      conv => arg 4; cbv
      exact AKp.doneE tabOK hfr (by rfl) (by rfl)
  · obtain ⟨a0, a1, a2, a3, a4, a5, a6, a7, rfl⟩ : ∃ a0 a1 a2 a3 a4 a5 a6 a7 : Int, t = [a0, a1, a2, a3, a4, a5, a6, a7] := by
      match t, hkt with
      | [a0, a1, a2, a3, a4, a5, a6, a7], _ => exact ⟨a0, a1, a2, a3, a4, a5, a6, a7, rfl⟩
    obtain rfl : jv = 57 := by omega
    conv => arg 4; cbv
    cases hb : F .leI 16 uv
    case' true =>
      have hle := leI1 hF hb
      obtain ⟨c, hc⟩ : ∃ z, z = ((hexC (n % 16)).toNat : Int) := ⟨_, rfl⟩
      obtain ⟨g1, g2⟩ := fb_state h 0 n _ hhex (by omega) ht
      rw [← hc] at g1 g2
      conv => arg 4; cbv
      rw [show F .getS [48, 49, 50, 51, 52, 53, 54, 55, 56, 57, 97, 98, 99, 100, 101, 102, 103, 104, 105, 106, 107, 108, 109, 110, 111, 112, 113, 114, 115, 116, 117, 118, 119, 120, 121, 122] (F .bits .and .u64 uv 15) = some c by rw [hc]; exact l_getS hF (dig_at (n % 16) (Nat.mod_lt _ (by decide))) (t_and15 hF huv hn64)]
      conv => arg 4; cbv
      rw [show F .wrap .i64 (F .sub 57 1) = 56 by rw [hF]; decide +kernel, show F .inB 56 65 = some 56 by rw [hF]; decide +kernel]
      conv => arg 4; cbv
      obtain ⟨u2, hu2⟩ : ∃ z : Int, z = ((n / 16 : Nat) : Int) := ⟨_, rfl⟩
      rw [t_shr4 hF huv hn64, ← hu2]
      conv => arg 4; cbv
      exact AKp.again _ hfr (by repeat (first | exact True.intro | refine ⟨⟨rfl, rfl⟩, ?_⟩)) (by repeat (first | exact True.intro | refine ⟨⟨rfl, rfl, rfl⟩, ?_⟩)) (hJ (n / 16) _ _ (by omega) ⟨9, _, _, [c, a0, a1, a2, a3, a4, a5, a6, a7], hu2, by omega, rfl, by omega, by have : n < 16 * 16 ^ 7 := hn16; omega, g1, g2, rfl, rfl⟩)
    case' false =>
      have hgt := leI0 hF hb
      obtain ⟨c, hc⟩ : ∃ z, z = ((hexC n).toNat : Int) := ⟨_, rfl⟩
      obtain ⟨g1, g2⟩ := fb_end h n _ hhex (by omega) ht
      rw [← hc] at g1 g2
      conv => arg 4; cbv
      rw [show F .getS [48, 49, 50, 51, 52, 53, 54, 55, 56, 57, 97, 98, 99, 100, 101, 102, 103, 104, 105, 106, 107, 108, 109, 110, 111, 112, 113, 114, 115, 116, 117, 118, 119, 120, 121, 122] uv = some c by rw [hc]; exact l_getS hF (dig_at n (by omega)) huv]
      conv => arg 4; cbv
      rw [show F .wrap .i64 (F .sub 57 1) = 56 by rw [hF]; decide +kernel, show F .inB 56 65 = some 56 by rw [hF]; decide +kernel]
      conv => arg 4; cbv
      refine AKp.sliceArr hF hnt 56 rfl rfl rfl rfl rfl rfl rfl (Nat.le_of_ble_eq_true rfl) (Nat.le_of_ble_eq_true rfl) (fun b w => by kernel_rfl) rfl ?_
      conv => arg 4; cbv
      obtain ⟨D, hD⟩ : ∃ D, D = hexD h := ⟨_, rfl⟩
      rw [← hD] at g1 ⊢
      rw [show F .strD [.s (.int .u8 c), .s (.int .u8 a0), .s (.int .u8 a1), .s (.int .u8 a2), .s (.int .u8 a3), .s (.int .u8 a4), .s (.int .u8 a5), .s (.int .u8 a6), .s (.int .u8 a7)] = some D by rw [← g1, hF]; exact strOf_ints g2]
      conv => arg 4; cbv
      exact AKp.doneE tabOK hfr (by rfl) (by rfl)
  · obtain ⟨a0, a1, a2, a3, a4, a5, a6, a7, a8, rfl⟩ : ∃ a0 a1 a2 a3 a4 a5 a6 a7 a8 : Int, t = [a0, a1, a2, a3, a4, a5, a6, a7, a8] := by
      match t, hkt with
      | [a0, a1, a2, a3, a4, a5, a6, a7, a8], _ => exact ⟨a0, a1, a2, a3, a4, a5, a6, a7, a8, rfl⟩
    obtain rfl : jv = 56 := by omega
    conv => arg 4; cbv
    cases hb : F .leI 16 uv
    case' true =>
      have hle := leI1 hF hb
      obtain ⟨c, hc⟩ : ∃ z, z = ((hexC (n % 16)).toNat : Int) := ⟨_, rfl⟩
      obtain ⟨g1, g2⟩ := fb_state h 0 n _ hhex (by omega) ht
      rw [← hc] at g1 g2
      conv => arg 4; cbv
      rw [show F .getS [48, 49, 50, 51, 52, 53, 54, 55, 56, 57, 97, 98, 99, 100, 101, 102, 103, 104, 105, 106, 107, 108, 109, 110, 111, 112, 113, 114, 115, 116, 117, 118, 119, 120, 121, 122] (F .bits .and .u64 uv 15) = some c by rw [hc]; exact l_getS hF (dig_at (n % 16) (Nat.mod_lt _ (by decide))) (t_and15 hF huv hn64)]
      conv => arg 4; cbv
      rw [show F .wrap .i64 (F .sub 56 1) = 55 by rw [hF]; decide +kernel, show F .inB 55 65 = some 55 by rw [hF]; decide +kernel]
      conv => arg 4; cbv
      obtain ⟨u2, hu2⟩ : ∃ z : Int, z = ((n / 16 : Nat) : Int) := ⟨_, rfl⟩
      rw [t_shr4 hF huv hn64, ← hu2]
      conv => arg 4; cbv
      exact AKp.again _ hfr (by repeat (first | exact True.intro | refine ⟨⟨rfl, rfl⟩, ?_⟩)) (by repeat (first | exact True.intro | refine ⟨⟨rfl, rfl, rfl⟩, ?_⟩)) (hJ (n / 16) _ _ (by omega) ⟨10, _, _, [c, a0, a1, a2, a3, a4, a5, a6, a7, a8], hu2, by omega, rfl, by omega, by have : n < 16 * 16 ^ 6 := hn16; omega, g1, g2, rfl, rfl⟩)
    case' false =>
      have hgt := leI0 hF hb
      obtain ⟨c, hc⟩ : ∃ z, z = ((hexC n).toNat : Int) := ⟨_, rfl⟩
      obtain ⟨g1, g2⟩ := fb_end h n _ hhex (by omega) ht
      rw [← hc] at g1 g2
      conv => arg 4; cbv
      rw [show F .getS [48, 49, 50, 51, 52, 53, 54, 55, 56, 57, 97, 98, 99, 100, 101, 102, 103, 104, 105, 106, 107, 108, 109, 110, 111, 112, 113, 114, 115, 116, 117, 118, 119, 120, 121, 122] uv = some c by rw [hc]; exact l_getS hF (dig_at n (by omega)) huv]
      conv => arg 4; cbv
      rw [show F .wrap .i64 (F .sub 56 1) = 55 by rw [hF]; decide +kernel, show F .inB 55 65 = some 55 by rw [hF]; decide +kernel]
      conv => arg 4; cbv
      refine AKp.sliceArr hF hnt 55 rfl rfl rfl rfl rfl rfl rfl (Nat.le_of_ble_eq_true rfl) (Nat.le_of_ble_eq_true rfl) (fun b w => by kernel_rfl) rfl ?_
      conv => arg 4; cbv
      obtain ⟨D, hD⟩ : ∃ D, D = hexD h := ⟨_, rfl⟩
      rw [← hD] at g1 ⊢
      rw [show F .strD [.s (.int .u8 c), .s (.int .u8 a0), .s (.int .u8 a1), .s (.int .u8 a2), .s (.int .u8 a3), .s (.int .u8 a4), .s (.int .u8 a5), .s (.int .u8 a6), .s (.int .u8 a7), .s (.int .u8 a8)] = some D by rw [← g1, hF]; exact strOf_ints g2]
      conv => arg 4; cbv
      exact AKp.doneE tabOK hfr (by rfl) (by rfl)
  · obtain ⟨a0, a1, a2, a3, a4, a5, a6, a7, a8, a9, rfl⟩ : ∃ a0 a1 a2 a3 a4 a5 a6 a7 a8 a9 : Int, t = [a0, a1, a2, a3, a4, a5, a6, a7, a8, a9] := by
      match t, hkt with
      | [a0, a1, a2, a3, a4, a5, a6, a7, a8, a9], _ => exact ⟨a0, a1, a2, a3, a4, a5, a6, a7, a8, a9, rfl⟩
    obtain rfl : jv = 55 := by omega
    conv => arg 4; cbv
    cases hb : F .leI 16 uv
    case' true =>
      have hle := leI1 hF hb
      obtain ⟨c, hc⟩ : ∃ z, z = ((hexC (n % 16)).toNat : Int) := ⟨_, rfl⟩
      obtain ⟨g1, g2⟩ := fb_state h 0 n _ hhex (by omega) ht
      rw [← hc] at g1 g2
      conv => arg 4; cbv
      rw [show F .getS [48, 49, 50, 51, 52, 53, 54, 55, 56, 57, 97, 98, 99, 100, 101, 102, 103, 104, 105, 106, 107, 108, 109, 110, 111, 112, 113, 114, 115, 116, 117, 118, 119, 120, 121, 122] (F .bits .and .u64 uv 15) = some c by rw [hc]; exact l_getS hF (dig_at (n % 16) (Nat.mod_lt _ (by decide))) (t_and15 hF huv hn64)]
      conv => arg 4; cbv
      rw [show F .wrap .i64 (F .sub 55 1) = 54 by rw [hF]; decide +kernel, show F .inB 54 65 = some 54 by rw [hF]; decide +kernel]
      conv => arg 4; cbv
      obtain ⟨u2, hu2⟩ : ∃ z : Int, z = ((n / 16 : Nat) : Int) := ⟨_, rfl⟩
      rw [t_shr4 hF huv hn64, ← hu2]
      conv => arg 4; cbv
      exact AKp.again _ hfr (by repeat (first | exact True.intro | refine ⟨⟨rfl, rfl⟩, ?_⟩)) (by repeat (first | exact True.intro | refine ⟨⟨rfl, rfl, rfl⟩, ?_⟩)) (hJ (n / 16) _ _ (by omega) ⟨11, _, _, [c, a0, a1, a2, a3, a4, a5, a6, a7, a8, a9], hu2, by omega, rfl, by omega, by have : n < 16 * 16 ^ 5 := hn16; omega, g1, g2, rfl, rfl⟩)
    case' false =>
      have hgt := leI0 hF hb
      obtain ⟨c, hc⟩ : ∃ z, z = ((hexC n).toNat : Int) := ⟨_, rfl⟩
      obtain ⟨g1, g2⟩ := fb_end h n _ hhex (by omega) ht
      rw [← hc] at g1 g2
      conv => arg 4; cbv
      rw [show F .getS [48, 49, 50, 51, 52, 53, 54, 55, 56, 57, 97, 98, 99, 100, 101, 102, 103, 104, 105, 106, 107, 108, 109, 110, 111, 112, 113, 114, 115, 116, 117, 118, 119, 120, 121, 122] uv = some c by rw [hc]; exact l_getS hF (dig_at n (by omega)) huv]
      conv => arg 4; cbv
      rw [show F .wrap .i64 (F .sub 55 1) = 54 by rw [hF]; decide +kernel, show F .inB 54 65 = some 54 by rw [hF]; decide +kernel]
      conv => arg 4; cbv
      refine AKp.sliceArr hF hnt 54 rfl rfl rfl rfl rfl rfl rfl (Nat.le_of_ble_eq_true rfl) (Nat.le_of_ble_eq_true rfl) (fun b w => by kernel_rfl) rfl ?_
      conv => arg 4; cbv
      obtain ⟨D, hD⟩ : ∃ D, D = hexD h := ⟨_, rfl⟩
      rw [← hD] at g1 ⊢
      rw [show F .strD [.s (.int .u8 c), .s (.int .u8 a0), .s (.int .u8 a1), .s (.int .u8 a2), .s (.int .u8 a3), .s (.int .u8 a4), .s (.int .u8 a5), .s (.int .u8 a6), .s (.int .u8 a7), .s (.int .u8 a8), .s (.int .u8 a9)] = some D by rw [← g1, hF]; exact strOf_ints g2]
      conv => arg 4; cbv
      exact AKp.doneE tabOK hfr (by rfl) (by rfl)
  · obtain ⟨a0, a1, a2, a3, a4, a5, a6, a7, a8, a9, a10, rfl⟩ : ∃ a0 a1 a2 a3 a4 a5 a6 a7 a8 a9 a10 : Int, t = [a0, a1, a2, a3, a4, a5, a6, a7, a8, a9, a10] := by
      match t, hkt with
      | [a0, a1, a2, a3, a4, a5, a6, a7, a8, a9, a10], _ => exact ⟨a0, a1, a2, a3, a4, a5, a6, a7, a8, a9, a10, rfl⟩
    obtain rfl : jv = 54 := by omega
    conv => arg 4; cbv
    cases hb : F .leI 16 uv
    case' true =>
      have hle := leI1 hF hb
      obtain ⟨c, hc⟩ : ∃ z, z = ((hexC (n % 16)).toNat : Int) := ⟨_, rfl⟩
      obtain ⟨g1, g2⟩ := fb_state h 0 n _ hhex (by omega) ht
      rw [← hc] at g1 g2
      conv => arg 4; cbv
      rw [show F .getS [48, 49, 50, 51, 52, 53, 54, 55, 56, 57, 97, 98, 99, 100, 101, 102, 103, 104, 105, 106, 107, 108, 109, 110, 111, 112, 113, 114, 115, 116, 117, 118, 119, 120, 121, 122] (F .bits .and .u64 uv 15) = some c by rw [hc]; exact l_getS hF (dig_at (n % 16) (Nat.mod_lt _ (by decide))) (t_and15 hF huv hn64)]
      conv => arg 4; cbv
      rw [show F .wrap .i64 (F .sub 54 1) = 53 by rw [hF]; decide +kernel, show F .inB 53 65 = some 53 by rw [hF]; decide +kernel]
      conv => arg 4; cbv
      obtain ⟨u2, hu2⟩ : ∃ z : Int, z = ((n / 16 : Nat) : Int) := ⟨_, rfl⟩
      rw [t_shr4 hF huv hn64, ← hu2]
      conv => arg 4; cbv
      exact AKp.again _ hfr (by repeat (first | exact True.intro | refine ⟨⟨rfl, rfl⟩, ?_⟩)) (by repeat (first | exact True.intro | refine ⟨⟨rfl, rfl, rfl⟩, ?_⟩)) (hJ (n / 16) _ _ (by omega) ⟨12, _, _, [c, a0, a1, a2, a3, a4, a5, a6, a7, a8, a9, a10], hu2, by omega, rfl, by omega, by have : n < 16 * 16 ^ 4 := hn16; omega, g1, g2, rfl, rfl⟩)
    case' false =>
      have hgt := leI0 hF hb
      obtain ⟨c, hc⟩ : ∃ z, z = ((hexC n).toNat : Int) := ⟨_, rfl⟩
      obtain ⟨g1, g2⟩ := fb_end h n _ hhex (by omega) ht
      rw [← hc] at g1 g2
      conv => arg 4; cbv
      rw [show F .getS [48, 49, 50, 51, 52, 53, 54, 55, 56, 57, 97, 98, 99, 100, 101, 102, 103, 104, 105, 106, 107, 108, 109, 110, 111, 112, 113, 114, 115, 116, 117, 118, 119, 120, 121, 122] uv = some c by rw [hc]; exact l_getS hF (dig_at n (by omega)) huv]
      conv => arg 4; cbv
      rw [show F .wrap .i64 (F .sub 54 1) = 53 by rw [hF]; decide +kernel, show F .inB 53 65 = some 53 by rw [hF]; decide +kernel]
      conv => arg 4; cbv
      refine AKp.sliceArr hF hnt 53 rfl rfl rfl rfl rfl rfl rfl (Nat.le_of_ble_eq_true rfl) (Nat.le_of_ble_eq_true rfl) (fun b w => by kernel_rfl) rfl ?_
      conv => arg 4; cbv
      obtain ⟨D, hD⟩ : ∃ D, D = hexD h := ⟨_, rfl⟩
      rw [← hD] at g1 ⊢
      rw [show F .strD [.s (.int .u8 c), .s (.int .u8 a0), .s (.int .u8 a1), .s (.int .u8 a2), .s (.int .u8 a3), .s (.int .u8 a4), .s (.int .u8 a5), .s (.int .u8 a6), .s (.int .u8 a7), .s (.int .u8 a8), .s (.int .u8 a9), .s (.int .u8 a10)] = some D by rw [← g1, hF]; exact strOf_ints g2]
      conv => arg 4; cbv
      exact AKp.doneE tabOK hfr (by rfl) (by rfl)
  · obtain ⟨a0, a1, a2, a3, a4, a5, a6, a7, a8, a9, a10, a11, rfl⟩ : ∃ a0 a1 a2 a3 a4 a5 a6 a7 a8 a9 a10 a11 : Int, t = [a0, a1, a2, a3, a4, a5, a6, a7, a8, a9, a10, a11] := by
      match t, hkt with
      | [a0, a1, a2, a3, a4, a5, a6, a7, a8, a9, a10, a11], _ => exact ⟨a0, a1, a2, a3, a4, a5, a6, a7, a8, a9, a10, a11, rfl⟩
    obtain rfl : jv = 53 := by omega
    conv => arg 4; cbv
    cases hb : F .leI 16 uv
    case' true =>
      have hle := leI1 hF hb
      obtain ⟨c, hc⟩ : ∃ z, z = ((hexC (n % 16)).toNat : Int) := ⟨_, rfl⟩
      obtain ⟨g1, g2⟩ := fb_state h 0 n _ hhex (by omega) ht
      rw [← hc] at g1 g2
      conv => arg 4; cbv
      rw [show F .getS [48, 49, 50, 51, 52, 53, 54, 55, 56, 57, 97, 98, 99, 100, 101, 102, 103, 104, 105, 106, 107, 108, 109, 110, 111, 112, 113, 114, 115, 116, 117, 118, 119, 120, 121, 122] (F .bits .and .u64 uv 15) = some c by rw [hc]; exact l_getS hF (dig_at (n % 16) (Nat.mod_lt _ (by decide))) (t_and15 hF huv hn64)]
      conv => arg 4; cbv
      rw [show F .wrap .i64 (F .sub 53 1) = 52 by rw [hF]; decide +kernel, show F .inB 52 65 = some 52 by rw [hF]; decide +kernel]
      conv => arg 4; cbv
      obtain ⟨u2, hu2⟩ : ∃ z : Int, z = ((n / 16 : Nat) : Int) := ⟨_, rfl⟩
      rw [t_shr4 hF huv hn64, ← hu2]
      conv => arg 4; cbv
      exact AKp.again _ hfr (by repeat (first | exact True.intro | refine ⟨⟨rfl, rfl⟩, ?_⟩)) (by repeat (first | exact True.intro | refine ⟨⟨rfl, rfl, rfl⟩, ?_⟩)) (hJ (n / 16) _ _ (by omega) ⟨13, _, _, [c, a0, a1, a2, a3, a4, a5, a6, a7, a8, a9, a10, a11], hu2, by omega, rfl, by omega, by have : n < 16 * 16 ^ 3 := hn16; omega, g1, g2, rfl, rfl⟩)
    case' false =>
      have hgt := leI0 hF hb
      obtain ⟨c, hc⟩ : ∃ z, z = ((hexC n).toNat : Int) := ⟨_, rfl⟩
      obtain ⟨g1, g2⟩ := fb_end h n _ hhex (by omega) ht
      rw [← hc] at g1 g2
      conv => arg 4; cbv
      rw [show F .getS [48, 49, 50, 51, 52, 53, 54, 55, 56, 57, 97, 98, 99, 100, 101, 102, 103, 104, 105, 106, 107, 108, 109, 110, 111, 112, 113, 114, 115, 116, 117, 118, 119, 120, 121, 122] uv = some c by rw [hc]; exact l_getS hF (dig_at n (by omega)) huv]
      conv => arg 4; cbv
      rw [show F .wrap .i64 (F .sub 53 1) = 52 by rw [hF]; decide +kernel, show F .inB 52 65 = some 52 by rw [hF]; decide +kernel]
      conv => arg 4; cbv
      refine AKp.sliceArr hF hnt 52 rfl rfl rfl rfl rfl rfl rfl (Nat.le_of_ble_eq_true rfl) (Nat.le_of_ble_eq_true rfl) (fun b w => by kernel_rfl) rfl ?_
      conv => arg 4; cbv
      obtain ⟨D, hD⟩ : ∃ D, D = hexD h := ⟨_, rfl⟩
      rw [← hD] at g1 ⊢
      rw [show F .strD [.s (.int .u8 c), .s (.int .u8 a0), .s (.int .u8 a1), .s (.int .u8 a2), .s (.int .u8 a3), .s (.int .u8 a4), .s (.int .u8 a5), .s (.int .u8 a6), .s (.int .u8 a7), .s (.int .u8 a8), .s (.int .u8 a9), .s (.int .u8 a10), .s (.int .u8 a11)] = some D by rw [← g1, hF]; exact strOf_ints g2]
      conv => arg 4; cbv
      exact AKp.doneE tabOK hfr (by rfl) (by rfl)
  · obtain ⟨a0, a1, a2, a3, a4, a5, a6, a7, a8, a9, a10, a11, a12, rfl⟩ : ∃ a0 a1 a2 a3 a4 a5 a6 a7 a8 a9 a10 a11 a12 : Int, t = [a0, a1, a2, a3, a4, a5, a6, a7, a8, a9, a10, a11, a12] := by
      match t, hkt with
      | [a0, a1, a2, a3, a4, a5, a6, a7, a8, a9, a10, a11, a12], _ => exact ⟨a0, a1, a2, a3, a4, a5, a6, a7, a8, a9, a10, a11, a12, rfl⟩
    obtain rfl : jv = 52 := by omega
    conv => arg 4; cbv
    cases hb : F .leI 16 uv
    case' true =>
      have hle := leI1 hF hb
      obtain ⟨c, hc⟩ : ∃ z, z = ((hexC (n % 16)).toNat : Int) := ⟨_, rfl⟩
      obtain ⟨g1, g2⟩ := fb_state h 0 n _ hhex (by omega) ht
      rw [← hc] at g1 g2
      conv => arg 4; cbv
      rw [show F .getS [48, 49, 50, 51, 52, 53, 54, 55, 56, 57, 97, 98, 99, 100, 101, 102, 103, 104, 105, 106, 107, 108, 109, 110, 111, 112, 113, 114, 115, 116, 117, 118, 119, 120, 121, 122] (F .bits .and .u64 uv 15) = some c by rw [hc]; exact l_getS hF (dig_at (n % 16) (Nat.mod_lt _ (by decide))) (t_and15 hF huv hn64)]
      conv => arg 4; cbv
      rw [show F .wrap .i64 (F .sub 52 1) = 51 by rw [hF]; decide +kernel, show F .inB 51 65 = some 51 by rw [hF]; decide +kernel]
      conv => arg 4; cbv
      obtain ⟨u2, hu2⟩ : ∃ z : Int, z = ((n / 16 : Nat) : Int) := ⟨_, rfl⟩
      rw [t_shr4 hF huv hn64, ← hu2]
      conv => arg 4; cbv
      exact AKp.again _ hfr (by repeat (first | exact True.intro | refine ⟨⟨rfl, rfl⟩, ?_⟩)) (by repeat (first | exact True.intro | refine ⟨⟨rfl, rfl, rfl⟩, ?_⟩)) (hJ (n / 16) _ _ (by omega) ⟨14, _, _, [c, a0, a1, a2, a3, a4, a5, a6, a7, a8, a9, a10, a11, a12], hu2, by omega, rfl, by omega, by have : n < 16 * 16 ^ 2 := hn16; omega, g1, g2, rfl, rfl⟩)
    case' false =>
      have hgt := leI0 hF hb
      obtain ⟨c, hc⟩ : ∃ z, z = ((hexC n).toNat : Int) := ⟨_, rfl⟩
      obtain ⟨g1, g2⟩ := fb_end h n _ hhex (by omega) ht
      rw [← hc] at g1 g2
      conv => arg 4; cbv
      rw [show F .getS [48, 49, 50, 51, 52, 53, 54, 55, 56, 57, 97, 98, 99, 100, 101, 102, 103, 104, 105, 106, 107, 108, 109, 110, 111, 112, 113, 114, 115, 116, 117, 118, 119, 120, 121, 122] uv = some c by rw [hc]; exact l_getS hF (dig_at n (by omega)) huv]
      conv => arg 4; cbv
      rw [show F .wrap .i64 (F .sub 52 1) = 51 by rw [hF]; decide +kernel, show F .inB 51 65 = some 51 by rw [hF]; decide +kernel]
      conv => arg 4; cbv
      refine AKp.sliceArr hF hnt 51 rfl rfl rfl rfl rfl rfl rfl (Nat.le_of_ble_eq_true rfl) (Nat.le_of_ble_eq_true rfl) (fun b w => by kernel_rfl) rfl ?_
      conv => arg 4; cbv
      obtain ⟨D, hD⟩ : ∃ D, D = hexD h := ⟨_, rfl⟩
      rw [← hD] at g1 ⊢
      rw [show F .strD [.s (.int .u8 c), .s (.int .u8 a0), .s (.int .u8 a1), .s (.int .u8 a2), .s (.int .u8 a3), .s (.int .u8 a4), .s (.int .u8 a5), .s (.int .u8 a6), .s (.int .u8 a7), .s (.int .u8 a8), .s (.int .u8 a9), .s (.int .u8 a10), .s (.int .u8 a11), .s (.int .u8 a12)] = some D by rw [← g1, hF]; exact strOf_ints g2]
      conv => arg 4; cbv
      exact AKp.doneE tabOK hfr (by rfl) (by rfl)
  · obtain ⟨a0, a1, a2, a3, a4, a5, a6, a7, a8, a9, a10, a11, a12, a13, rfl⟩ : ∃ a0 a1 a2 a3 a4 a5 a6 a7 a8 a9 a10 a11 a12 a13 : Int, t = [a0, a1, a2, a3, a4, a5, a6, a7, a8, a9, a10, a11, a12, a13] := by
      match t, hkt with
      | [a0, a1, a2, a3, a4, a5, a6, a7, a8, a9, a10, a11, a12, a13], _ => exact ⟨a0, a1, a2, a3, a4, a5, a6, a7, a8, a9, a10, a11, a12, a13, rfl⟩
    obtain rfl : jv = 51 := by omega
    conv => arg 4; cbv
    cases hb : F .leI 16 uv
    case' true =>
      have hle := leI1 hF hb
      obtain ⟨c, hc⟩ : ∃ z, z = ((hexC (n % 16)).toNat : Int) := ⟨_, rfl⟩
      obtain ⟨g1, g2⟩ := fb_state h 0 n _ hhex (by omega) ht
      rw [← hc] at g1 g2
      conv => arg 4; cbv
      rw [show F .getS [48, 49, 50, 51, 52, 53, 54, 55, 56, 57, 97, 98, 99, 100, 101, 102, 103, 104, 105, 106, 107, 108, 109, 110, 111, 112, 113, 114, 115, 116, 117, 118, 119, 120, 121, 122] (F .bits .and .u64 uv 15) = some c by rw [hc]; exact l_getS hF (dig_at (n % 16) (Nat.mod_lt _ (by decide))) (t_and15 hF huv hn64)]
      conv => arg 4; cbv
      rw [show F .wrap .i64 (F .sub 51 1) = 50 by rw [hF]; decide +kernel, show F .inB 50 65 = some 50 by rw [hF]; decide +kernel]
      conv => arg 4; cbv
      obtain ⟨u2, hu2⟩ : ∃ z : Int, z = ((n / 16 : Nat) : Int) := ⟨_, rfl⟩
      rw [t_shr4 hF huv hn64, ← hu2]
      conv => arg 4; cbv
      exact AKp.again _ hfr (by repeat (first | exact True.intro | refine ⟨⟨rfl, rfl⟩, ?_⟩)) (by repeat (first | exact True.intro | refine ⟨⟨rfl, rfl, rfl⟩, ?_⟩)) (hJ (n / 16) _ _ (by omega) ⟨15, _, _, [c, a0, a1, a2, a3, a4, a5, a6, a7, a8, a9, a10, a11, a12, a13], hu2, by omega, rfl, by omega, by have : n < 16 * 16 ^ 1 := hn16; omega, g1, g2, rfl, rfl⟩)
    case' false =>
      have hgt := leI0 hF hb
      obtain ⟨c, hc⟩ : ∃ z, z = ((hexC n).toNat : Int) := ⟨_, rfl⟩
      obtain ⟨g1, g2⟩ := fb_end h n _ hhex (by omega) ht
      rw [← hc] at g1 g2
      conv => arg 4; cbv
      rw [show F .getS [48, 49, 50, 51, 52, 53, 54, 55, 56, 57, 97, 98, 99, 100, 101, 102, 103, 104, 105, 106, 107, 108, 109, 110, 111, 112, 113, 114, 115, 116, 117, 118, 119, 120, 121, 122] uv = some c by rw [hc]; exact l_getS hF (dig_at n (by omega)) huv]
      conv => arg 4; cbv
      rw [show F .wrap .i64 (F .sub 51 1) = 50 by rw [hF]; decide +kernel, show F .inB 50 65 = some 50 by rw [hF]; decide +kernel]
      conv => arg 4; cbv
      refine AKp.sliceArr hF hnt 50 rfl rfl rfl rfl rfl rfl rfl (Nat.le_of_ble_eq_true rfl) (Nat.le_of_ble_eq_true rfl) (fun b w => by kernel_rfl) rfl ?_
      conv => arg 4; cbv
      obtain ⟨D, hD⟩ : ∃ D, D = hexD h := ⟨_, rfl⟩
      rw [← hD] at g1 ⊢
      rw [show F .strD [.s (.int .u8 c), .s (.int .u8 a0), .s (.int .u8 a1), .s (.int .u8 a2), .s (.int .u8 a3), .s (.int .u8 a4), .s (.int .u8 a5), .s (.int .u8 a6), .s (.int .u8 a7), .s (.int .u8 a8), .s (.int .u8 a9), .s (.int .u8 a10), .s (.int .u8 a11), .s (.int .u8 a12), .s (.int .u8 a13)] = some D by rw [← g1, hF]; exact strOf_ints g2]
      conv => arg 4; cbv
      exact AKp.doneE tabOK hfr (by rfl) (by rfl)
  · obtain ⟨a0, a1, a2, a3, a4, a5, a6, a7, a8, a9, a10, a11, a12, a13, a14, rfl⟩ : ∃ a0 a1 a2 a3 a4 a5 a6 a7 a8 a9 a10 a11 a12 a13 a14 : Int, t = [a0, a1, a2, a3, a4, a5, a6, a7, a8, a9, a10, a11, a12, a13, a14] := by
      match t, hkt with
      | [a0, a1, a2, a3, a4, a5, a6, a7, a8, a9, a10, a11, a12, a13, a14], _ => exact ⟨a0, a1, a2, a3, a4, a5, a6, a7, a8, a9, a10, a11, a12, a13, a14, rfl⟩
    obtain rfl : jv = 50 := by omega
    conv => arg 4; cbv
    cases hb : F .leI 16 uv
    case' true =>
      have hle := leI1 hF hb
      exact absurd hle (by have : n < 16 := hn16; omega)
    case' false =>
      have hgt := leI0 hF hb
      obtain ⟨c, hc⟩ : ∃ z, z = ((hexC n).toNat : Int) := ⟨_, rfl⟩
      obtain ⟨g1, g2⟩ := fb_end h n _ hhex (by omega) ht
      rw [← hc] at g1 g2
      conv => arg 4; cbv
      rw [show F .getS [48, 49, 50, 51, 52, 53, 54, 55, 56, 57, 97, 98, 99, 100, 101, 102, 103, 104, 105, 106, 107, 108, 109, 110, 111, 112, 113, 114, 115, 116, 117, 118, 119, 120, 121, 122] uv = some c by rw [hc]; exact l_getS hF (dig_at n (by omega)) huv]
      conv => arg 4; cbv
      rw [show F .wrap .i64 (F .sub 50 1) = 49 by rw [hF]; decide +kernel, show F .inB 49 65 = some 49 by rw [hF]; decide +kernel]
      conv => arg 4; cbv
      refine AKp.sliceArr hF hnt 49 rfl rfl rfl rfl rfl rfl rfl (Nat.le_of_ble_eq_true rfl) (Nat.le_of_ble_eq_true rfl) (fun b w => by kernel_rfl) rfl ?_
      conv => arg 4; cbv
      obtain ⟨D, hD⟩ : ∃ D, D = hexD h := ⟨_, rfl⟩
      rw [← hD] at g1 ⊢
      rw [show F .strD [.s (.int .u8 c), .s (.int .u8 a0), .s (.int .u8 a1), .s (.int .u8 a2), .s (.int .u8 a3), .s (.int .u8 a4), .s (.int .u8 a5), .s (.int .u8 a6), .s (.int .u8 a7), .s (.int .u8 a8), .s (.int .u8 a9), .s (.int .u8 a10), .s (.int .u8 a11), .s (.int .u8 a12), .s (.int .u8 a13), .s (.int .u8 a14)] = some D by rw [← g1, hF]; exact strOf_ints g2]
      conv => arg 4; cbv
      exact AKp.doneE tabOK hfr (by rfl) (by rfl)
end Go.Proofs.YtlcgjeafmbbipaaDoor

/- Sixteen digits. -/
namespace Go.Proofs.YtlcgjeafmbbipaaDoor
open Go Go.Proofs Go.Ua Go.Extern
set_option linter.unusedVariables false
set_option linter.unusedSimpArgs false
set_option maxRecDepth 10000

/-- The last k digits. -/
def hexN : Nat → Nat → List UInt8
  | 0, _ => []
  | k + 1, n => hexN k (n / 16) ++ [hexC (n % 16)]
theorem hexN_len : ∀ (k n : Nat), (hexN k n).length = k
  | 0, _ => rfl
  | k + 1, n => by simp [hexN, hexN_len k]
theorem hexN_D : ∀ (k n : Nat), n < 16 ^ (k + 1) → (hexD n).length ≤ k + 1 ∧ hexN (k + 1) n = List.replicate (k + 1 - (hexD n).length) 48 ++ hexD n
  | 0, n, h => by
    have h : n < 16 := h
    rw [hexD_small h]
    simp [hexN, Nat.mod_eq_of_lt h]
  | k + 1, n, h => by
    have h : n < 16 ^ (k + 1) * 16 := h
    rw [show hexN (k + 1 + 1) n = hexN (k + 1) (n / 16) ++ [hexC (n % 16)] from rfl]
    obtain ⟨g1, g2⟩ := hexN_D k (n / 16) (by omega)
    rw [g2]
    by_cases hs : n < 16
    · have e : n / 16 = 0 := by omega
      rw [e, hexD_small hs, hexD_small (by decide : 0 < 16), Nat.mod_eq_of_lt hs]
      refine ⟨by simp, ?_⟩
      show List.replicate k 48 ++ [48] ++ [hexC n] = List.replicate (k + 1) 48 ++ [hexC n]
      rw [List.replicate_succ']
    · rw [hexD_big hs]
      simp only [List.length_append, List.length_singleton]
      refine ⟨by omega, ?_⟩
      rw [show k + 1 + 1 - ((hexD (n / 16)).length + 1) = k + 1 - (hexD (n / 16)).length by omega]
      simp

theorem FormatUintI16 (h : Nat) (hlt : h < 18446744073709551616) : ESpec Tryd.prog 68 [.d (.s (.int .u64 h)), .d (.s (.int .i64 16))] (fun x => x = .d (.s (.str (hexD h)))) := by
  have sp := formatBits16 h hlt
  obtain ⟨hv, hhv⟩ : ∃ z : Int, z = h := ⟨_, rfl⟩
  obtain ⟨D, hD⟩ : ∃ z, z = hexD h := ⟨_, rfl⟩
  rw [← hhv, ← hD] at sp ⊢
  refine ESpec.enter Tryd.func68 (by kernel_rfl) rfl (Nat.le_of_ble_eq_true rfl) fun _ cx hnt hfr => ?_
  obtain ⟨F, hF⟩ := real_ex
  refine AK.run hF tabOK hnt ?_
  conv => arg 4; cbv
  rw [show F .eqI 16 10 = false by rw [hF]; decide +kernel]
  conv => arg 4; cbv
  refine AKp.call hF tabOK hnt sp rfl rfl rfl rfl rfl rfl rfl (by repeat' first | exact .refl _ | constructor) ?_
  rintro _ rfl
  conv => arg 4; cbv
  exact AKp.doneE tabOK hfr (by rfl) (by rfl)
theorem FormatUint16 (h : Nat) (hlt : h < 18446744073709551616) : ESpec Tryd.prog 53 [.d (.s (.int .u64 h)), .d (.s (.int .i64 16))] (fun x => x = .d (.s (.str (hexD h)))) := by
  have sp := FormatUintI16 h hlt
  obtain ⟨hv, hhv⟩ : ∃ z : Int, z = h := ⟨_, rfl⟩
  obtain ⟨D, hD⟩ : ∃ z, z = hexD h := ⟨_, rfl⟩
  rw [← hhv, ← hD] at sp ⊢
  refine ESpec.enter Tryd.func53 (by kernel_rfl) rfl (Nat.le_of_ble_eq_true rfl) fun _ cx hnt hfr => ?_
  obtain ⟨F, hF⟩ := real_ex
  refine AK.run hF tabOK hnt ?_
  conv => arg 4; cbv
  refine AKp.call hF tabOK hnt sp rfl rfl rfl rfl rfl rfl rfl (by repeat' first | exact .refl _ | constructor) ?_
  rintro _ rfl
  conv => arg 4; cbv
  exact AKp.doneE tabOK hfr (by rfl) (by rfl)
theorem Hex_spec (h : Nat) (hlt : h < 18446744073709551616) : ESpec Tryd.prog 38 [.d (.s (.int .u64 h))] (fun x => x = .d (.s (.str (hexN 16 h)))) := by
  have sp := FormatUint16 h hlt
  obtain ⟨hl, hN⟩ := hexN_D 15 h hlt
  have sr := Repeat_spec [48] (16 - (hexD h).length) (by omega) (by simp; omega)
  have hrl : Lib.repeatL [48] (16 - (hexD h).length) = List.replicate (16 - (hexD h).length) 48 := by
    generalize 16 - (hexD h).length = c
    induction c with
    | zero => rfl
    | succ c ih => rw [List.replicate_succ, ← ih]; rfl
  rw [hrl] at sr
  obtain ⟨hv, hhv⟩ : ∃ z : Int, z = h := ⟨_, rfl⟩
  obtain ⟨D, hD⟩ : ∃ z, z = hexD h := ⟨_, rfl⟩
  obtain ⟨Z, hZ⟩ : ∃ z, z = List.replicate (16 - D.length) (48 : UInt8) := ⟨_, rfl⟩
  obtain ⟨cv, hcv⟩ : ∃ z : Int, z = ((16 - D.length : Nat) : Int) := ⟨_, rfl⟩
  rw [← hD] at hl hN sr sp
  rw [hN]
  rw [← hcv, ← hZ] at sr
  rw [← hhv] at sp ⊢
  refine ESpec.enter Tryd.func38 (by kernel_rfl) rfl (Nat.le_of_ble_eq_true rfl) fun _ cx hnt hfr => ?_
  obtain ⟨F, hF⟩ := real_ex
  refine AK.run hF tabOK hnt ?_
  conv => arg 4; cbv
  refine AKp.call hF tabOK hnt sp rfl rfl rfl rfl rfl rfl rfl (by repeat' first | exact .refl _ | constructor) ?_
  rintro _ rfl
  conv => arg 4; cbv
  rw [show F .wrap .i64 (F .sub 16 (F .lenS D)) = cv by
    rw [hF]
    show IntKind.i64.wrap (16 - (D.length : Int)) = _
    rw [w_i64 (by omega) (by omega), hcv]
    omega]
  conv => arg 4; cbv
  refine AKp.call hF tabOK hnt sr rfl rfl rfl rfl rfl rfl rfl (by repeat' first | exact .refl _ | constructor) ?_
  rintro _ rfl
  conv => arg 4; cbv
  rw [l_cat hF (a := Z) (b := D) (by rw [hZ]; simp; exact Nat.le_trans (show 16 - D.length + D.length ≤ 16 by omega) (by decide))]
  obtain ⟨R, hR⟩ : ∃ R, R = Z ++ D := ⟨_, rfl⟩
  rw [← hR]
  conv => arg 4; cbv
  rw [show List.replicate (15 + 1 - D.length) 48 ++ D = R by rw [hR, hZ]]
  exact AKp.doneE tabOK hfr (by rfl) (by rfl)

theorem RefHex_spec (h : Nat) (hlt : h < 18446744073709551616) : ESpec Tryd.prog 46 [.d (.s (.int .u64 h))] (fun x => x = .d (.s (.str (hexN 16 h)))) := by
  obtain ⟨hv, hhv⟩ : ∃ z : Int, z = h := ⟨_, rfl⟩
  rw [← hhv]
  refine ESpec.enter Tryd.func46 (by kernel_rfl) rfl (Nat.le_of_ble_eq_true rfl) fun _ cx hnt hfr => ?_
  obtain ⟨F, hF⟩ := real_ex
  refine AK.runT hF tabOK hmix hnt hfr true [] trivial ?_
  conv => arg 4; cbv
  repeat' (first | with_reducible refine AKt.have ?_ | with_reducible refine AKt.tt ?_ | with_reducible refine AKt.ff ?_ | with_reducible refine AKt.yes (by assumption) ?_ | with_reducible refine AKt.no (by assumption) ?_ | with_reducible refine AKt.node (fun hb => ?_) (fun hb => ?_) | with_reducible refine AKt.need ?_ (fun hb => ?_) | with_reducible refine AKt.leaf ?_ | ((with_reducible show _ = true); assumption))
  refine AKp.enterLoop 5 ?_
  conv => arg 7; cbv
  refine AKl.invT hF tabOK hmix hnt hfr true [] trivial (fun n vs hs => ∃ (i u : Nat) (iv uv : Int) (s : List UInt8), i + n = 16 ∧ iv = i ∧ uv = u ∧ u < 18446744073709551616 ∧ hexN 16 h = hexN (16 - i) u ++ s ∧ s.length = i ∧ vs = [(4, .d (.s (.int .i64 iv))), (3, .d (.s (.str s))), (0, .d (.s (.int .u64 uv)))] ∧ hs = []) 16 ⟨0, h, _, hv, [], by omega, rfl, hhv, hlt, by simp, rfl, rfl, rfl⟩ (by repeat (first | exact True.intro | refine ⟨⟨rfl, rfl⟩, ?_⟩)) (by repeat (first | exact True.intro | refine ⟨⟨rfl, rfl, rfl⟩, ?_⟩)) ?_
  rintro J n vs hs hJ ⟨i, u, iv, uv, s, hi, hiv, huv, hu, hhx, hsl, rfl, rfl⟩
  have hlt16 : u % 16 < 16 := Nat.mod_lt _ (by decide)
  have hr : F .tmod uv 16 = ((u % 16 : Nat) : Int) := by rw [hF, huv]; rfl
  have hq : F .wrap .u64 (F .tdiv uv 16) = ((u / 16 : Nat) : Int) := by
    rw [hF, huv]
    show IntKind.u64.wrap (Int.tdiv (u : Int) 16) = _
    rw [show Int.tdiv (u : Int) 16 = ((u / 16 : Nat) : Int) from rfl, IntKind.wrap_u64]
    omega
  have hb : F .wrap .u8 ((u % 16 : Nat) : Int) = ((u % 16 : Nat) : Int) := by rw [hF]; exact w_u8 (by omega) (by omega)
  have hlo : u % 16 < 10 → F .wrap .u8 (F .add ((u % 16 : Nat) : Int) 48) = ((hexC (u % 16)).toNat : Int) := fun hl => by
    rw [hF]
    show IntKind.u8.wrap (((u % 16 : Nat) : Int) + 48) = _
    rw [w_u8 (by omega) (by omega), hexC, if_pos hl, UInt8.toNat_ofNat']
    omega
  have hhi : ¬ u % 16 < 10 → F .wrap .u8 (F .add ((u % 16 : Nat) : Int) 87) = ((hexC (u % 16)).toNat : Int) := fun hl => by
    rw [hF]
    show IntKind.u8.wrap (((u % 16 : Nat) : Int) + 87) = _
    rw [w_u8 (by omega) (by omega), hexC, if_neg hl, UInt8.toNat_ofNat']
    omega
  have hstep : i < 16 → hexN 16 h = hexN (16 - (i + 1)) (u / 16) ++ (hexC (u % 16) :: s) := fun hl => by
    rw [hhx, show 16 - i = (16 - (i + 1)) + 1 by omega, hexN]
    simp
  obtain ⟨rv, hrv⟩ : ∃ z : Int, z = ((u % 16 : Nat) : Int) := ⟨_, rfl⟩
  obtain ⟨c, hc⟩ : ∃ c, c = hexC (u % 16) := ⟨_, rfl⟩
  obtain ⟨cv, hcv⟩ : ∃ z : Int, z = (c.toNat : Int) := ⟨_, rfl⟩
  rw [← hrv] at hr hb hlo hhi
  rw [← hc, ← hcv] at hlo hhi
  rw [← hc] at hstep
  have hst : F .hasStr [.s (.int .u8 cv)] = true := by
    rw [hF, f_hasStr, hcv]
    show (strOf ([(c.toNat : Int)].map fun n => Dat.s (.int .u8 n))).isSome = true
    rw [strOf_ints (by have := UInt8.toNat_lt c; simp; omega)]; rfl
  have hst2 : F .ofStr [.s (.int .u8 cv)] = [c] := by
    rw [hF, f_ofStr, hcv]
    show (strOf ([(c.toNat : Int)].map fun n => Dat.s (.int .u8 n))).getD [] = _
    rw [strOf_ints (by have := UInt8.toNat_lt c; simp; omega)]
    simp [bytesI]
  conv => arg 4; cbv
  rw [hr, hb]
  refine AKt.node (fun hb1 => ?_) (fun hb1 => ?_)
  · have hlt : i < 16 := by simp only [hF, f_ltI, f_leI, f_eqI, f_eqS, f_eqB, f_not, f_andB, f_orB, f_lenS, f_lenD, f_hasS, f_atS, f_hasC, f_subS, f_hasCat, f_app, f_wrap, f_add, f_sub, f_mul, f_appD, f_fits, f_hasV, f_subV, decide_eq_true_eq, decide_eq_false_iff_not, beq_iff_eq, beq_eq_false_iff_ne, Bool.and_eq_true, Bool.and_eq_false_iff, Bool.not_eq_true, Bool.not_eq_false, Bool.not_eq_eq_eq_not, Bool.not_true, Bool.not_false] at hb1; omega
    have hca : F .hasCat [c] s = true := t_hasCat hF (by simp; omega)
    have hap : F .app [c] s = c :: s := by rw [hF]; rfl
    refine AKt.node (fun hb2 => ?_) (fun hb2 => ?_)
    · rw [hlo (by simp only [hF, f_ltI, f_leI, f_eqI, f_eqS, f_eqB, f_not, f_andB, f_orB, f_lenS, f_lenD, f_hasS, f_atS, f_hasC, f_subS, f_hasCat, f_app, f_wrap, f_add, f_sub, f_mul, f_appD, f_fits, f_hasV, f_subV, decide_eq_true_eq, decide_eq_false_iff_not, beq_iff_eq, beq_eq_false_iff_ne, Bool.and_eq_true, Bool.and_eq_false_iff, Bool.not_eq_true, Bool.not_eq_false, Bool.not_eq_eq_eq_not, Bool.not_true, Bool.not_false] at hb2; omega), hst2, hap, hq]
      repeat' (first | with_reducible refine AKt.have ?_ | with_reducible refine AKt.tt ?_ | with_reducible refine AKt.ff ?_ | with_reducible refine AKt.yes (by assumption) ?_ | with_reducible refine AKt.no (by assumption) ?_ | with_reducible refine AKt.node (fun hb => ?_) (fun hb => ?_) | with_reducible refine AKt.need ?_ (fun hb => ?_) | with_reducible refine AKt.leaf ?_ | ((with_reducible show _ = true); assumption))
      refine AKp.again _ hfr (by repeat (first | exact True.intro | refine ⟨⟨rfl, rfl⟩, ?_⟩)) (by repeat (first | exact True.intro | refine ⟨⟨rfl, rfl, rfl⟩, ?_⟩)) (hJ (n - 1) _ _ (by omega) ⟨i + 1, u / 16, _, _, _, by omega, inc_i hF hiv (by omega), rfl, by omega, hstep hlt, by simp [hsl], rfl, rfl⟩)
    · rw [hhi (by simp only [hF, f_ltI, f_leI, f_eqI, f_eqS, f_eqB, f_not, f_andB, f_orB, f_lenS, f_lenD, f_hasS, f_atS, f_hasC, f_subS, f_hasCat, f_app, f_wrap, f_add, f_sub, f_mul, f_appD, f_fits, f_hasV, f_subV, decide_eq_true_eq, decide_eq_false_iff_not, beq_iff_eq, beq_eq_false_iff_ne, Bool.and_eq_true, Bool.and_eq_false_iff, Bool.not_eq_true, Bool.not_eq_false, Bool.not_eq_eq_eq_not, Bool.not_true, Bool.not_false] at hb2; omega), hst2, hap, hq]
      repeat' (first | with_reducible refine AKt.have ?_ | with_reducible refine AKt.tt ?_ | with_reducible refine AKt.ff ?_ | with_reducible refine AKt.yes (by assumption) ?_ | with_reducible refine AKt.no (by assumption) ?_ | with_reducible refine AKt.node (fun hb => ?_) (fun hb => ?_) | with_reducible refine AKt.need ?_ (fun hb => ?_) | with_reducible refine AKt.leaf ?_ | ((with_reducible show _ = true); assumption))
      refine AKp.again _ hfr (by repeat (first | exact True.intro | refine ⟨⟨rfl, rfl⟩, ?_⟩)) (by repeat (first | exact True.intro | refine ⟨⟨rfl, rfl, rfl⟩, ?_⟩)) (hJ (n - 1) _ _ (by omega) ⟨i + 1, u / 16, _, _, _, by omega, inc_i hF hiv (by omega), rfl, by omega, hstep hlt, by simp [hsl], rfl, rfl⟩)
  · have hge : ¬ i < 16 := by simp only [hF, f_ltI, f_leI, f_eqI, f_eqS, f_eqB, f_not, f_andB, f_orB, f_lenS, f_lenD, f_hasS, f_atS, f_hasC, f_subS, f_hasCat, f_app, f_wrap, f_add, f_sub, f_mul, f_appD, f_fits, f_hasV, f_subV, decide_eq_true_eq, decide_eq_false_iff_not, beq_iff_eq, beq_eq_false_iff_ne, Bool.and_eq_true, Bool.and_eq_false_iff, Bool.not_eq_true, Bool.not_eq_false, Bool.not_eq_eq_eq_not, Bool.not_true, Bool.not_false] at hb1; omega
    obtain rfl : i = 16 := by omega
    rw [hhx]
    repeat' (first | with_reducible refine AKt.have ?_ | with_reducible refine AKt.tt ?_ | with_reducible refine AKt.ff ?_ | with_reducible refine AKt.yes (by assumption) ?_ | with_reducible refine AKt.no (by assumption) ?_ | with_reducible refine AKt.node (fun hb => ?_) (fun hb => ?_) | with_reducible refine AKt.need ?_ (fun hb => ?_) | with_reducible refine AKt.leaf ?_ | ((with_reducible show _ = true); assumption))
    refine AKp.doneE tabOK hfr (by rfl) ?_
    show _ = _
    simp only [tupAV]
    rfl
theorem HexI_spec (n : Int) : ESpec Tryd.prog 38 [.d (.s (.int .u64 n))] (fun x => x = .d (.s (.str (hexN 16 n.toNat)))) :=
  ESpec.ok (enters_of Tryd.func38 (by kernel_rfl) rfl) fun hok => by
    have h1 : 0 ≤ n := hok.1.1
    have h2 : n ≤ 18446744073709551615 := hok.1.2
    have := Hex_spec n.toNat (by omega)
    rwa [Int.toNat_of_nonneg h1] at this
theorem RefHexI_spec (n : Int) : ESpec Tryd.prog 46 [.d (.s (.int .u64 n))] (fun x => x = .d (.s (.str (hexN 16 n.toNat)))) :=
  ESpec.ok (enters_of Tryd.func46 (by kernel_rfl) rfl) fun hok => by
    have h1 : 0 ≤ n := hok.1.1
    have h2 : n ≤ 18446744073709551615 := hok.1.2
    have := RefHex_spec n.toNat (by omega)
    rwa [Int.toNat_of_nonneg h1] at this
def φHex (u : Int → List UInt8) : List AV → Option (Bool × AV)
  | [.d (.s (.int .u64 n))] => some (true, .d (.s (.str (u n))))
  | _ => none
theorem φHex_ok : SpOK Tryd.prog 38 (φHex (fun n => hexN 16 n.toNat)) := by
  intro xs b x h hb
  unfold φHex at h
  split at h
  · simp only [Option.some.injEq, Prod.mk.injEq] at h
    obtain ⟨rfl, rfl⟩ := h
    exact HexI_spec _
  · cases h
def φRefHex (u : Int → List UInt8) : List AV → Option (Bool × AV)
  | [.d (.s (.int .u64 n))] => some (true, .d (.s (.str (u n))))
  | _ => none
theorem φRefHex_ok : SpOK Tryd.prog 46 (φRefHex (fun n => hexN 16 n.toNat)) := by
  intro xs b x h hb
  unfold φRefHex at h
  split at h
  · simp only [Option.some.injEq, Prod.mk.injEq] at h
    obtain ⟨rfl, rfl⟩ := h
    exact RefHexI_spec _
  · cases h
end Go.Proofs.YtlcgjeafmbbipaaDoor

/- Back from sixteen digits. -/
namespace Go.Proofs.YtlcgjeafmbbipaaDoor
open Go Go.Proofs Go.Ua Go.Extern
set_option linter.unusedVariables false
set_option linter.unusedSimpArgs false
set_option maxRecDepth 10000

def hexOK (c : UInt8) : Bool := (decide (48 ≤ c.toNat) && decide (c.toNat ≤ 57)) || (decide (97 ≤ c.toNat) && decide (c.toNat ≤ 102))
def hexV (c : UInt8) : Nat := if c.toNat ≤ 57 then c.toNat - 48 else c.toNat - 87
def foldH (w : List UInt8) : Nat := w.foldl (fun n c => 16 * n + hexV c) 0
def unhexB (w : List UInt8) : Bool := decide (w.length = 16) && w.all hexOK
def unhexV (w : List UInt8) : Int := if unhexB w = true then (foldH w : Int) else 0
theorem foldH_take {w : List UInt8} {i : Nat} {c : UInt8} (h : w[i]? = some c) : foldH (w.take (i + 1)) = 16 * foldH (w.take i) + hexV c := by
  rw [List.take_add_one, h]
  simp [foldH, List.foldl_append]
theorem hexV_lt {c : UInt8} (h : hexOK c = true) : hexV c < 16 := by
  unfold hexOK at h
  unfold hexV
  simp only [Bool.or_eq_true, Bool.and_eq_true, decide_eq_true_eq] at h
  split <;> omega
theorem foldH_lt {w : List UInt8} : ∀ (i : Nat), i ≤ w.length → (w.take i).all hexOK = true → foldH (w.take i) < 16 ^ i := by
  intro i
  induction i with
  | zero => intro _ _; simp [foldH]
  | succ i ih =>
    intro hi hall
    obtain ⟨c, hc⟩ : ∃ c, w[i]? = some c := ⟨_, List.getElem?_eq_getElem (by omega)⟩
    rw [List.take_add_one, hc] at hall
    simp only [Option.toList_some, List.all_append, Bool.and_eq_true, List.all_cons, List.all_nil, Bool.and_true] at hall
    have := ih (by omega) hall.1
    have h2 := hexV_lt hall.2
    rw [foldH_take hc, Nat.pow_succ]
    omega
theorem ib_hex (c : UInt8) : Lib.indexByte [48, 49, 50, 51, 52, 53, 54, 55, 56, 57, 97, 98, 99, 100, 101, 102] c = if hexOK c = true then (hexV c : Int) else -1 := by
  have e : ∀ n : Nat, n < 256 → Lib.indexByte [48, 49, 50, 51, 52, 53, 54, 55, 56, 57, 97, 98, 99, 100, 101, 102] (UInt8.ofNat n) = if hexOK (UInt8.ofNat n) = true then (hexV (UInt8.ofNat n) : Int) else -1 := by decide +kernel
  have := e c.toNat (UInt8.toNat_lt c)
  rwa [UInt8.ofNat_toNat] at this
theorem or16 (a k : Nat) (hk : k < 16) (ha : a < 1152921504606846976) : bits .or .u64 ((16 * a : Nat) : Int) (k : Int) = ((16 * a + k : Nat) : Int) := by
  rw [bits_or_u64_nat (16 * a) k (by omega) (by omega)]
  rw [show 16 * a = 2 ^ 4 * a by rfl, ← Nat.two_pow_add_eq_or_of_lt (by omega : k < 2 ^ 4)]

theorem IndexByteI_spec (s : List UInt8) (n : Int) : ESpec Tryd.prog 50 [.d (.s (.str s)), .d (.s (.int .u8 n))] (fun x => x = .d (.s (.int .i64 (Lib.indexByte s (UInt8.ofNat n.toNat))))) :=
  ESpec.ok (enters_of Tryd.func50 (by kernel_rfl) rfl) fun hok => by
    have := IndexByte_spec s (UInt8.ofNat n.toNat)
    rwa [u8_of hok.2.1] at this
def φIndexByte (u : List UInt8 → Int → Int) : List AV → Option (Bool × AV)
  | [.d (.s (.str s)), .d (.s (.int .u8 n))] => some (true, .d (.s (.int .i64 (u s n))))
  | _ => none
theorem φIndexByte_ok : SpOK Tryd.prog 50 (φIndexByte (fun s n => Lib.indexByte s (UInt8.ofNat n.toNat))) := by
  intro xs b x h hb
  unfold φIndexByte at h
  split at h
  · simp only [Option.some.injEq, Prod.mk.injEq] at h
    obtain ⟨rfl, rfl⟩ := h
    exact IndexByteI_spec _ _
  · cases h

theorem Unhex_spec (w : List UInt8) : ESpec Tryd.prog 33 [.d (.s (.str w))] (fun x => x = .tup [.d (.s (.int .u64 (unhexV w))), .d (.s (.bool (unhexB w)))]) := by
  obtain ⟨uIndexByte, huIndexByte⟩ : ∃ u : List UInt8 → Int → Int, u = fun s n => Lib.indexByte s (UInt8.ofNat n.toNat) := ⟨_, rfl⟩
  have hG : TblOK Tryd.prog [(50, .p (φIndexByte uIndexByte))] := ⟨(by rw [huIndexByte]; exact φIndexByte_ok), trivial⟩
  obtain ⟨zv, hzv⟩ : ∃ z, z = unhexV w := ⟨_, rfl⟩
  obtain ⟨zb, hzb⟩ : ∃ z, z = unhexB w := ⟨_, rfl⟩
  rw [← hzv, ← hzb]
  have bad : unhexB w = false → zv = 0 ∧ zb = false := fun h => by rw [hzv, hzb, h, unhexV, h]; exact ⟨rfl, rfl⟩
  have good : unhexB w = true → zv = (foldH w : Int) ∧ zb = true := fun h => by rw [hzv, hzb, h, unhexV, if_pos h]; exact ⟨rfl, rfl⟩
  unfold unhexB at bad good
  refine ESpec.enter Tryd.func33 (by kernel_rfl) rfl (Nat.le_of_ble_eq_true rfl) fun _ cx hnt hfr => ?_
  obtain ⟨F, hF⟩ := real_ex
  refine AK.runT hF tabOK hmix hnt hfr false _ hG ?_
  conv => arg 4; cbv
  refine AKt.node (fun hb0 => ?_) (fun hb0 => ?_)
  · have hl : ¬ w.length = 16 := by simp only [hF, f_ltI, f_leI, f_eqI, f_eqS, f_eqB, f_not, f_andB, f_orB, f_lenS, f_lenD, f_hasS, f_atS, f_hasC, f_subS, f_hasCat, f_app, f_wrap, f_add, f_sub, f_mul, f_appD, f_fits, f_hasV, f_subV, decide_eq_true_eq, decide_eq_false_iff_not, beq_iff_eq, beq_eq_false_iff_ne, Bool.and_eq_true, Bool.and_eq_false_iff, Bool.not_eq_true, Bool.not_eq_false, Bool.not_eq_eq_eq_not, Bool.not_true, Bool.not_false] at hb0; omega
    obtain ⟨g1, g2⟩ := bad (by rw [decide_eq_false hl]; rfl)
    repeat' (first | with_reducible refine AKt.have ?_ | with_reducible refine AKt.tt ?_ | with_reducible refine AKt.ff ?_ | with_reducible refine AKt.yes (by assumption) ?_ | with_reducible refine AKt.no (by assumption) ?_ | with_reducible refine AKt.node (fun hb => ?_) (fun hb => ?_) | with_reducible refine AKt.need ?_ (fun hb => ?_) | with_reducible refine AKt.leaf ?_ | ((with_reducible show _ = true); assumption))
    refine AKp.doneE tabOK hfr (by rfl) ?_
    show _ = _
    simp only [tupAV]
    rw [g1, g2]
  have hl : w.length = 16 := by simp only [hF, f_ltI, f_leI, f_eqI, f_eqS, f_eqB, f_not, f_andB, f_orB, f_lenS, f_lenD, f_hasS, f_atS, f_hasC, f_subS, f_hasCat, f_app, f_wrap, f_add, f_sub, f_mul, f_appD, f_fits, f_hasV, f_subV, decide_eq_true_eq, decide_eq_false_iff_not, beq_iff_eq, beq_eq_false_iff_ne, Bool.and_eq_true, Bool.and_eq_false_iff, Bool.not_eq_true, Bool.not_eq_false, Bool.not_eq_eq_eq_not, Bool.not_true, Bool.not_false] at hb0; omega
  rw [decide_eq_true hl, Bool.true_and] at bad good
  repeat' (first | with_reducible refine AKt.have ?_ | with_reducible refine AKt.tt ?_ | with_reducible refine AKt.ff ?_ | with_reducible refine AKt.yes (by assumption) ?_ | with_reducible refine AKt.no (by assumption) ?_ | with_reducible refine AKt.node (fun hb => ?_) (fun hb => ?_) | with_reducible refine AKt.need ?_ (fun hb => ?_) | with_reducible refine AKt.leaf ?_ | ((with_reducible show _ = true); assumption))
  refine AKp.enterLoop 13 ?_
  conv => arg 7; cbv
  refine AKl.invT hF tabOK hmix hnt hfr false _ hG (fun n vs hs => ∃ (i : Nat) (iv hv : Int), i + n = w.length ∧ iv = i ∧ hv = (foldH (w.take i) : Nat) ∧ (w.take i).all hexOK = true ∧ vs = [(12, .d (.s (.int .i64 iv))), (4, .d (.s (.int .u64 hv)))] ∧ hs = []) w.length ⟨0, _, 0, by omega, rfl, by simp [foldH], by simp, rfl, rfl⟩ (by repeat (first | exact True.intro | refine ⟨⟨rfl, rfl⟩, ?_⟩)) (by repeat (first | exact True.intro | refine ⟨⟨rfl, rfl, rfl⟩, ?_⟩)) ?_
  rintro J n vs hs hJ ⟨i, iv, hv, hi, hiv, hhv, hall, rfl, rfl⟩
  have hfl := foldH_lt i (by omega) hall
  conv => arg 4; cbv
  refine AKt.node (fun hb1 => ?_) (fun hb1 => ?_)
  · have hlt : i < w.length := by simp only [hF, f_ltI, f_leI, f_eqI, f_eqS, f_eqB, f_not, f_andB, f_orB, f_lenS, f_lenD, f_hasS, f_atS, f_hasC, f_subS, f_hasCat, f_app, f_wrap, f_add, f_sub, f_mul, f_appD, f_fits, f_hasV, f_subV, decide_eq_true_eq, decide_eq_false_iff_not, beq_iff_eq, beq_eq_false_iff_ne, Bool.and_eq_true, Bool.and_eq_false_iff, Bool.not_eq_true, Bool.not_eq_false, Bool.not_eq_eq_eq_not, Bool.not_true, Bool.not_false] at hb1; omega
    obtain ⟨c, hc⟩ : ∃ c, w[i]? = some c := ⟨_, List.getElem?_eq_getElem hlt⟩
    have hs := t_hasS hF hlt hiv
    have hu : uIndexByte [48, 49, 50, 51, 52, 53, 54, 55, 56, 57, 97, 98, 99, 100, 101, 102] c.toNat = if hexOK c = true then (hexV c : Int) else -1 := by
      subst huIndexByte
      show Lib.indexByte _ (UInt8.ofNat (c.toNat : Int).toNat) = _
      rw [Int.toNat_natCast, UInt8.ofNat_toNat]
      exact ib_hex c
    have hno := all_false (p := hexOK) hc
    have hyes := all_take_succ (p := hexOK) hc hall
    have hft := foldH_take hc
    rw [t_atS hF hc hiv]
    cases hok : hexOK c
    · rw [hok, if_neg (by simp)] at hu
      rw [hu]
      refine AKt.need hs fun _ => AKt.have ?_
      obtain ⟨g1, g2⟩ := bad (hno hok)
      rw [show F .ltI (-1) 0 = true by rw [hF]; rfl]
      refine AKt.tt ?_
      repeat' (first | with_reducible refine AKt.have ?_ | with_reducible refine AKt.tt ?_ | with_reducible refine AKt.ff ?_ | with_reducible refine AKt.yes (by assumption) ?_ | with_reducible refine AKt.no (by assumption) ?_ | with_reducible refine AKt.node (fun hb => ?_) (fun hb => ?_) | with_reducible refine AKt.need ?_ (fun hb => ?_) | with_reducible refine AKt.leaf ?_ | ((with_reducible show _ = true); assumption))
      refine AKp.doneE tabOK hfr (by rfl) ?_
      show _ = _
      simp only [tupAV]
      rw [g1, g2]
    · rw [hok, if_pos rfl] at hu
      have hv16 := hexV_lt hok
      obtain ⟨kv, hkv⟩ : ∃ z : Int, z = hexV c := ⟨_, rfl⟩
      rw [← hkv] at hu
      rw [hu]
      have hp : 16 ^ i ≤ 16 ^ 15 := Nat.pow_le_pow_right (by decide) (by omega)
      have h15 : foldH (w.take i) < 1152921504606846976 := Nat.lt_of_lt_of_le hfl hp
      refine AKt.need hs fun _ => AKt.have ?_
      rw [show F .ltI kv 0 = false by rw [hF, f_ltI]; exact decide_eq_false (by omega)]
      refine AKt.ff ?_
      obtain ⟨h2, hh2⟩ : ∃ z : Int, z = ((16 * foldH (w.take i) : Nat) : Int) := ⟨_, rfl⟩
      rw [show F .shl .u64 hv 4 = some h2 by
        rw [hF]
        show (if (4 : Int) < 0 then none else some (IntKind.u64.wrap (hv * 2 ^ (Min.min (4 : Int).toNat IntKind.u64.bits)))) = _
        rw [if_neg (by decide), show (2 : Int) ^ (Min.min (4 : Int).toNat IntKind.u64.bits) = 16 by decide, IntKind.wrap_u64, hh2, hhv]
        congr 1
        omega]
      conv => arg 4; cbv
      have e1 : F .wrap .u64 kv = kv := by
        rw [hF]
        show IntKind.u64.wrap kv = kv
        rw [IntKind.wrap_u64]
        omega
      have e2 : F .bits .or .u64 h2 kv = ((foldH (w.take (i + 1)) : Nat) : Int) := by
        rw [hF, hh2, hkv, hft]
        exact or16 _ _ hv16 h15
      rw [e1, e2]
      repeat' (first | with_reducible refine AKt.have ?_ | with_reducible refine AKt.tt ?_ | with_reducible refine AKt.ff ?_ | with_reducible refine AKt.yes (by assumption) ?_ | with_reducible refine AKt.no (by assumption) ?_ | with_reducible refine AKt.node (fun hb => ?_) (fun hb => ?_) | with_reducible refine AKt.need ?_ (fun hb => ?_) | with_reducible refine AKt.leaf ?_ | ((with_reducible show _ = true); assumption))
      refine AKp.again _ hfr (by repeat (first | exact True.intro | refine ⟨⟨rfl, rfl⟩, ?_⟩)) (by repeat (first | exact True.intro | refine ⟨⟨rfl, rfl, rfl⟩, ?_⟩)) (hJ (n - 1) _ _ (by omega) ⟨i + 1, _, _, by omega, inc_i hF hiv (by omega), rfl, hyes hok, rfl, rfl⟩)
  · have hge : ¬ i < w.length := by simp only [hF, f_ltI, f_leI, f_eqI, f_eqS, f_eqB, f_not, f_andB, f_orB, f_lenS, f_lenD, f_hasS, f_atS, f_hasC, f_subS, f_hasCat, f_app, f_wrap, f_add, f_sub, f_mul, f_appD, f_fits, f_hasV, f_subV, decide_eq_true_eq, decide_eq_false_iff_not, beq_iff_eq, beq_eq_false_iff_ne, Bool.and_eq_true, Bool.and_eq_false_iff, Bool.not_eq_true, Bool.not_eq_false, Bool.not_eq_eq_eq_not, Bool.not_true, Bool.not_false] at hb1; omega
    rw [List.take_of_length_le (by omega)] at hall hhv
    obtain ⟨g1, g2⟩ := good hall
    repeat' (first | with_reducible refine AKt.have ?_ | with_reducible refine AKt.tt ?_ | with_reducible refine AKt.ff ?_ | with_reducible refine AKt.yes (by assumption) ?_ | with_reducible refine AKt.no (by assumption) ?_ | with_reducible refine AKt.node (fun hb => ?_) (fun hb => ?_) | with_reducible refine AKt.need ?_ (fun hb => ?_) | with_reducible refine AKt.leaf ?_ | ((with_reducible show _ = true); assumption))
    refine AKp.doneE tabOK hfr (by rfl) ?_
    show _ = _
    simp only [tupAV]
    rw [g1, g2, hhv]

theorem RefUnhex_spec (w : List UInt8) : ESpec Tryd.prog 28 [.d (.s (.str w))] (fun x => x = .tup [.d (.s (.int .u64 (unhexV w))), .d (.s (.bool (unhexB w)))]) := by
  obtain ⟨zv, hzv⟩ : ∃ z, z = unhexV w := ⟨_, rfl⟩
  obtain ⟨zb, hzb⟩ : ∃ z, z = unhexB w := ⟨_, rfl⟩
  rw [← hzv, ← hzb]
  have bad : unhexB w = false → zv = 0 ∧ zb = false := fun h => by rw [hzv, hzb, h, unhexV, h]; exact ⟨rfl, rfl⟩
  have good : unhexB w = true → zv = (foldH w : Int) ∧ zb = true := fun h => by rw [hzv, hzb, h, unhexV, if_pos h]; exact ⟨rfl, rfl⟩
  unfold unhexB at bad good
  refine ESpec.enter Tryd.func28 (by kernel_rfl) rfl (Nat.le_of_ble_eq_true rfl) fun _ cx hnt hfr => ?_
  obtain ⟨F, hF⟩ := real_ex
  refine AK.runT hF tabOK hmix hnt hfr false [] trivial ?_
  conv => arg 4; cbv
  refine AKt.node (fun hb0 => ?_) (fun hb0 => ?_)
  · have hl : ¬ w.length = 16 := by simp only [hF, f_ltI, f_leI, f_eqI, f_eqS, f_eqB, f_not, f_andB, f_orB, f_lenS, f_lenD, f_hasS, f_atS, f_hasC, f_subS, f_hasCat, f_app, f_wrap, f_add, f_sub, f_mul, f_appD, f_fits, f_hasV, f_subV, decide_eq_true_eq, decide_eq_false_iff_not, beq_iff_eq, beq_eq_false_iff_ne, Bool.and_eq_true, Bool.and_eq_false_iff, Bool.not_eq_true, Bool.not_eq_false, Bool.not_eq_eq_eq_not, Bool.not_true, Bool.not_false] at hb0; omega
    obtain ⟨g1, g2⟩ := bad (by rw [decide_eq_false hl]; rfl)
    repeat' (first | with_reducible refine AKt.have ?_ | with_reducible refine AKt.tt ?_ | with_reducible refine AKt.ff ?_ | with_reducible refine AKt.yes (by assumption) ?_ | with_reducible refine AKt.no (by assumption) ?_ | with_reducible refine AKt.node (fun hb => ?_) (fun hb => ?_) | with_reducible refine AKt.need ?_ (fun hb => ?_) | with_reducible refine AKt.leaf ?_ | ((with_reducible show _ = true); assumption))
    refine AKp.doneE tabOK hfr (by rfl) ?_
    show _ = _
    simp only [tupAV]
    rw [g1, g2]
  have hl : w.length = 16 := by simp only [hF, f_ltI, f_leI, f_eqI, f_eqS, f_eqB, f_not, f_andB, f_orB, f_lenS, f_lenD, f_hasS, f_atS, f_hasC, f_subS, f_hasCat, f_app, f_wrap, f_add, f_sub, f_mul, f_appD, f_fits, f_hasV, f_subV, decide_eq_true_eq, decide_eq_false_iff_not, beq_iff_eq, beq_eq_false_iff_ne, Bool.and_eq_true, Bool.and_eq_false_iff, Bool.not_eq_true, Bool.not_eq_false, Bool.not_eq_eq_eq_not, Bool.not_true, Bool.not_false] at hb0; omega
  rw [decide_eq_true hl, Bool.true_and] at bad good
  repeat' (first | with_reducible refine AKt.have ?_ | with_reducible refine AKt.tt ?_ | with_reducible refine AKt.ff ?_ | with_reducible refine AKt.yes (by assumption) ?_ | with_reducible refine AKt.no (by assumption) ?_ | with_reducible refine AKt.node (fun hb => ?_) (fun hb => ?_) | with_reducible refine AKt.need ?_ (fun hb => ?_) | with_reducible refine AKt.leaf ?_ | ((with_reducible show _ = true); assumption))
  refine AKp.enterLoop 6 ?_
  conv => arg 7; cbv
  refine AKl.invT hF tabOK hmix hnt hfr false [] trivial (fun n vs hs => ∃ (i : Nat) (iv hv : Int), i + n = w.length ∧ iv = i ∧ hv = (foldH (w.take i) : Nat) ∧ (w.take i).all hexOK = true ∧ vs = [(5, .d (.s (.int .i64 iv))), (4, .d (.s (.int .u64 hv)))] ∧ hs = []) w.length ⟨0, _, 0, by omega, rfl, by simp [foldH], by simp, rfl, rfl⟩ (by repeat (first | exact True.intro | refine ⟨⟨rfl, rfl⟩, ?_⟩)) (by repeat (first | exact True.intro | refine ⟨⟨rfl, rfl, rfl⟩, ?_⟩)) ?_
  rintro J n vs hs hJ ⟨i, iv, hv, hi, hiv, hhv, hall, rfl, rfl⟩
  have hfl := foldH_lt i (by omega) hall
  conv => arg 4; cbv
  refine AKt.node (fun hb1 => ?_) (fun hb1 => ?_)
  · have hlt : i < w.length := by simp only [hF, f_ltI, f_leI, f_eqI, f_eqS, f_eqB, f_not, f_andB, f_orB, f_lenS, f_lenD, f_hasS, f_atS, f_hasC, f_subS, f_hasCat, f_app, f_wrap, f_add, f_sub, f_mul, f_appD, f_fits, f_hasV, f_subV, decide_eq_true_eq, decide_eq_false_iff_not, beq_iff_eq, beq_eq_false_iff_ne, Bool.and_eq_true, Bool.and_eq_false_iff, Bool.not_eq_true, Bool.not_eq_false, Bool.not_eq_eq_eq_not, Bool.not_true, Bool.not_false] at hb1; omega
    obtain ⟨c, hc⟩ : ∃ c, w[i]? = some c := ⟨_, List.getElem?_eq_getElem hlt⟩
    have hs := t_hasS hF hlt hiv
    have hno := all_false (p := hexOK) hc
    have hyes := all_take_succ (p := hexOK) hc hall
    have hft := foldH_take hc
    have hp : 16 ^ i ≤ 16 ^ 15 := Nat.pow_le_pow_right (by decide) (by omega)
    have h15 : foldH (w.take i) < 1152921504606846976 := Nat.lt_of_lt_of_le hfl hp
    have hc255 := UInt8.toNat_lt c
    have val : ∀ d : Nat, (d = 48 ∨ d = 87) → hexV c = c.toNat - d → d ≤ c.toNat → hexV c < 16 → F .wrap .u64 (F .sub (F .wrap .u64 (F .add (F .wrap .u64 (F .mul hv 16)) (F .wrap .u64 (c.toNat : Int)))) d) = ((foldH (w.take (i + 1)) : Nat) : Int) := by
      intro d hd hv1 hd2 hv16
      rw [hF, hft, hv1]
      show IntKind.u64.wrap (IntKind.u64.wrap (IntKind.u64.wrap (hv * 16) + IntKind.u64.wrap (c.toNat : Int)) - (d : Int)) = _
      simp only [IntKind.wrap_u64]
      omega
    rw [t_atS hF hc hiv]
    have ok : hexOK c = ((decide (48 ≤ (c.toNat : Int)) && decide ((c.toNat : Int) ≤ 57)) || (decide (97 ≤ (c.toNat : Int)) && decide ((c.toNat : Int) ≤ 102))) := by
      unfold hexOK
      rw [Bool.eq_iff_iff]
      simp only [Bool.or_eq_true, Bool.and_eq_true, decide_eq_true_eq]
      omega
    repeat' (first | with_reducible refine AKt.have ?_ | with_reducible refine AKt.tt ?_ | with_reducible refine AKt.ff ?_ | with_reducible refine AKt.yes (by assumption) ?_ | with_reducible refine AKt.no (by assumption) ?_ | with_reducible refine AKt.node (fun hb => ?_) (fun hb => ?_) | with_reducible refine AKt.need ?_ (fun hb => ?_) | with_reducible refine AKt.leaf ?_ | ((with_reducible show _ = true); assumption))
    all_goals first
      | (have h1 := ‹F .leI 48 (c.toNat : Int) = true›
         have h2 := ‹F .leI (c.toNat : Int) 57 = true›
         rw [show F .wrap .u64 (F .sub (F .wrap .u64 (F .add (F .wrap .u64 (F .mul hv 16)) (F .wrap .u64 (c.toNat : Int)))) 48) = ((foldH (w.take (i + 1)) : Nat) : Int) from val 48 (.inl rfl) (by simp only [hF, f_ltI, f_leI, f_eqI, f_eqS, f_eqB, f_not, f_andB, f_orB, f_lenS, f_lenD, f_hasS, f_atS, f_hasC, f_subS, f_hasCat, f_app, f_wrap, f_add, f_sub, f_mul, f_appD, f_fits, f_hasV, f_subV, decide_eq_true_eq, decide_eq_false_iff_not, beq_iff_eq, beq_eq_false_iff_ne, Bool.and_eq_true, Bool.and_eq_false_iff, Bool.not_eq_true, Bool.not_eq_false, Bool.not_eq_eq_eq_not, Bool.not_true, Bool.not_false] at h1 h2; unfold hexV; rw [if_pos (by omega)]) (by simp only [hF, f_ltI, f_leI, f_eqI, f_eqS, f_eqB, f_not, f_andB, f_orB, f_lenS, f_lenD, f_hasS, f_atS, f_hasC, f_subS, f_hasCat, f_app, f_wrap, f_add, f_sub, f_mul, f_appD, f_fits, f_hasV, f_subV, decide_eq_true_eq, decide_eq_false_iff_not, beq_iff_eq, beq_eq_false_iff_ne, Bool.and_eq_true, Bool.and_eq_false_iff, Bool.not_eq_true, Bool.not_eq_false, Bool.not_eq_eq_eq_not, Bool.not_true, Bool.not_false] at h1; omega) (by simp only [hF, f_ltI, f_leI, f_eqI, f_eqS, f_eqB, f_not, f_andB, f_orB, f_lenS, f_lenD, f_hasS, f_atS, f_hasC, f_subS, f_hasCat, f_app, f_wrap, f_add, f_sub, f_mul, f_appD, f_fits, f_hasV, f_subV, decide_eq_true_eq, decide_eq_false_iff_not, beq_iff_eq, beq_eq_false_iff_ne, Bool.and_eq_true, Bool.and_eq_false_iff, Bool.not_eq_true, Bool.not_eq_false, Bool.not_eq_eq_eq_not, Bool.not_true, Bool.not_false] at h1 h2; unfold hexV; rw [if_pos (by omega)]; omega)]
         exact AKp.again _ hfr (by repeat (first | exact True.intro | refine ⟨⟨rfl, rfl⟩, ?_⟩)) (by repeat (first | exact True.intro | refine ⟨⟨rfl, rfl, rfl⟩, ?_⟩)) (hJ (n - 1) _ _ (by omega) ⟨i + 1, _, _, by omega, inc_i hF hiv (by omega), rfl, hyes (by simp only [hF, f_ltI, f_leI, f_eqI, f_eqS, f_eqB, f_not, f_andB, f_orB, f_lenS, f_lenD, f_hasS, f_atS, f_hasC, f_subS, f_hasCat, f_app, f_wrap, f_add, f_sub, f_mul, f_appD, f_fits, f_hasV, f_subV, decide_eq_true_eq, decide_eq_false_iff_not, beq_iff_eq, beq_eq_false_iff_ne, Bool.and_eq_true, Bool.and_eq_false_iff, Bool.not_eq_true, Bool.not_eq_false, Bool.not_eq_eq_eq_not, Bool.not_true, Bool.not_false] at h1 h2; rw [ok]; simp [h1, h2]), rfl, rfl⟩))
      | (have h1 := ‹F .leI 97 (c.toNat : Int) = true›
         have h2 := ‹F .leI (c.toNat : Int) 102 = true›
         rw [show F .wrap .u64 (F .sub (F .wrap .u64 (F .add (F .wrap .u64 (F .mul hv 16)) (F .wrap .u64 (c.toNat : Int)))) 87) = ((foldH (w.take (i + 1)) : Nat) : Int) from val 87 (.inr rfl) (by simp only [hF, f_ltI, f_leI, f_eqI, f_eqS, f_eqB, f_not, f_andB, f_orB, f_lenS, f_lenD, f_hasS, f_atS, f_hasC, f_subS, f_hasCat, f_app, f_wrap, f_add, f_sub, f_mul, f_appD, f_fits, f_hasV, f_subV, decide_eq_true_eq, decide_eq_false_iff_not, beq_iff_eq, beq_eq_false_iff_ne, Bool.and_eq_true, Bool.and_eq_false_iff, Bool.not_eq_true, Bool.not_eq_false, Bool.not_eq_eq_eq_not, Bool.not_true, Bool.not_false] at h1 h2; unfold hexV; rw [if_neg (by omega)]) (by simp only [hF, f_ltI, f_leI, f_eqI, f_eqS, f_eqB, f_not, f_andB, f_orB, f_lenS, f_lenD, f_hasS, f_atS, f_hasC, f_subS, f_hasCat, f_app, f_wrap, f_add, f_sub, f_mul, f_appD, f_fits, f_hasV, f_subV, decide_eq_true_eq, decide_eq_false_iff_not, beq_iff_eq, beq_eq_false_iff_ne, Bool.and_eq_true, Bool.and_eq_false_iff, Bool.not_eq_true, Bool.not_eq_false, Bool.not_eq_eq_eq_not, Bool.not_true, Bool.not_false] at h1; omega) (by simp only [hF, f_ltI, f_leI, f_eqI, f_eqS, f_eqB, f_not, f_andB, f_orB, f_lenS, f_lenD, f_hasS, f_atS, f_hasC, f_subS, f_hasCat, f_app, f_wrap, f_add, f_sub, f_mul, f_appD, f_fits, f_hasV, f_subV, decide_eq_true_eq, decide_eq_false_iff_not, beq_iff_eq, beq_eq_false_iff_ne, Bool.and_eq_true, Bool.and_eq_false_iff, Bool.not_eq_true, Bool.not_eq_false, Bool.not_eq_eq_eq_not, Bool.not_true, Bool.not_false] at h1 h2; unfold hexV; rw [if_neg (by omega)]; omega)]
         exact AKp.again _ hfr (by repeat (first | exact True.intro | refine ⟨⟨rfl, rfl⟩, ?_⟩)) (by repeat (first | exact True.intro | refine ⟨⟨rfl, rfl, rfl⟩, ?_⟩)) (hJ (n - 1) _ _ (by omega) ⟨i + 1, _, _, by omega, inc_i hF hiv (by omega), rfl, hyes (by simp only [hF, f_ltI, f_leI, f_eqI, f_eqS, f_eqB, f_not, f_andB, f_orB, f_lenS, f_lenD, f_hasS, f_atS, f_hasC, f_subS, f_hasCat, f_app, f_wrap, f_add, f_sub, f_mul, f_appD, f_fits, f_hasV, f_subV, decide_eq_true_eq, decide_eq_false_iff_not, beq_iff_eq, beq_eq_false_iff_ne, Bool.and_eq_true, Bool.and_eq_false_iff, Bool.not_eq_true, Bool.not_eq_false, Bool.not_eq_eq_eq_not, Bool.not_true, Bool.not_false] at h1 h2; rw [ok]; simp [h1, h2]), rfl, rfl⟩))
      | (refine AKp.doneE tabOK hfr (by rfl) ?_
         show _ = _
         simp only [tupAV]
         have hbad : hexOK c = false := by
           clear hJ hno hyes
           rw [ok]
           simp only [hF, f_ltI, f_leI, f_eqI, f_eqS, f_eqB, f_not, f_andB, f_orB, f_lenS, f_lenD, f_hasS, f_atS, f_hasC, f_subS, f_hasCat, f_app, f_wrap, f_add, f_sub, f_mul, f_appD, f_fits, f_hasV, f_subV, decide_eq_true_eq, decide_eq_false_iff_not, beq_iff_eq, beq_eq_false_iff_ne, Bool.and_eq_true, Bool.and_eq_false_iff, Bool.not_eq_true, Bool.not_eq_false, Bool.not_eq_eq_eq_not, Bool.not_true, Bool.not_false] at *
           grind
         obtain ⟨g1, g2⟩ := bad (hno hbad)
         rw [g1, g2])
  · have hge : ¬ i < w.length := by simp only [hF, f_ltI, f_leI, f_eqI, f_eqS, f_eqB, f_not, f_andB, f_orB, f_lenS, f_lenD, f_hasS, f_atS, f_hasC, f_subS, f_hasCat, f_app, f_wrap, f_add, f_sub, f_mul, f_appD, f_fits, f_hasV, f_subV, decide_eq_true_eq, decide_eq_false_iff_not, beq_iff_eq, beq_eq_false_iff_ne, Bool.and_eq_true, Bool.and_eq_false_iff, Bool.not_eq_true, Bool.not_eq_false, Bool.not_eq_eq_eq_not, Bool.not_true, Bool.not_false] at hb1; omega
    rw [List.take_of_length_le (by omega)] at hall hhv
    obtain ⟨g1, g2⟩ := good hall
    repeat' (first | with_reducible refine AKt.have ?_ | with_reducible refine AKt.tt ?_ | with_reducible refine AKt.ff ?_ | with_reducible refine AKt.yes (by assumption) ?_ | with_reducible refine AKt.no (by assumption) ?_ | with_reducible refine AKt.node (fun hb => ?_) (fun hb => ?_) | with_reducible refine AKt.need ?_ (fun hb => ?_) | with_reducible refine AKt.leaf ?_ | ((with_reducible show _ = true); assumption))
    refine AKp.doneE tabOK hfr (by rfl) ?_
    show _ = _
    simp only [tupAV]
    rw [g1, g2, hhv]
def φUnhex (u : List UInt8 → Int) (v : List UInt8 → Bool) : List AV → Option (Bool × AV)
  | [.d (.s (.str w))] => some (true, .tup [.d (.s (.int .u64 (u w))), .d (.s (.bool (v w)))])
  | _ => none
theorem φUnhex_ok : SpOK Tryd.prog 33 (φUnhex (unhexV) (unhexB)) := by
  intro xs b x h hb
  unfold φUnhex at h
  split at h
  · simp only [Option.some.injEq, Prod.mk.injEq] at h
    obtain ⟨rfl, rfl⟩ := h
    exact Unhex_spec _
  · cases h
def φRefUnhex (u : List UInt8 → Int) (v : List UInt8 → Bool) : List AV → Option (Bool × AV)
  | [.d (.s (.str w))] => some (true, .tup [.d (.s (.int .u64 (u w))), .d (.s (.bool (v w)))])
  | _ => none
theorem φRefUnhex_ok : SpOK Tryd.prog 28 (φRefUnhex (unhexV) (unhexB)) := by
  intro xs b x h hb
  unfold φRefUnhex at h
  split at h
  · simp only [Option.some.injEq, Prod.mk.injEq] at h
    obtain ⟨rfl, rfl⟩ := h
    exact RefUnhex_spec _
  · cases h
end Go.Proofs.YtlcgjeafmbbipaaDoor

/- Digits in order: plain laws. -/
namespace Go.Proofs.YtlcgjeafmbbipaaDoor
open Go Go.Proofs Go.Ua Go.Extern
set_option linter.unusedVariables false
set_option linter.unusedSimpArgs false

theorem asymm8 : ∀ {x y : List UInt8}, x < y → ¬ y < x
  | [], [], h => absurd h (by simp)
  | [], _ :: _, _ => by simp
  | _ :: _, [], h => absurd h (by simp)
  | a :: x, b :: y, h => by
    rw [List.cons_lt_cons_iff] at h ⊢
    rintro (h2 | ⟨rfl, h2⟩)
    · rcases h with h | ⟨rfl, _⟩
      · rw [UInt8.lt_iff_toNat_lt] at h h2; omega
      · rw [UInt8.lt_iff_toNat_lt] at h2; omega
    · rcases h with h | ⟨_, h⟩
      · rw [UInt8.lt_iff_toNat_lt] at h; omega
      · exact asymm8 h h2

theorem snoc_lt : ∀ {x y : List UInt8} {c d : UInt8}, x.length = y.length → ((x ++ [c]) < (y ++ [d]) ↔ x < y ∨ (x = y ∧ c < d))
  | [], [], c, d, _ => by simp [List.cons_lt_cons_iff]
  | [], _ :: _, _, _, h => by simp at h
  | _ :: _, [], _, _, h => by simp at h
  | a :: x, b :: y, c, d, h => by
    have ih := snoc_lt (x := x) (y := y) (c := c) (d := d) (by simpa using h)
    simp only [List.cons_append, List.cons_lt_cons_iff, ih, List.cons.injEq]
    constructor
    · rintro (g | ⟨rfl, g | ⟨rfl, g⟩⟩)
      · exact .inl (.inl g)
      · exact .inl (.inr ⟨rfl, g⟩)
      · exact .inr ⟨⟨rfl, rfl⟩, g⟩
    · rintro ((g | ⟨rfl, g⟩) | ⟨⟨rfl, rfl⟩, g⟩)
      · exact .inl g
      · exact .inr ⟨rfl, .inl g⟩
      · exact .inr ⟨rfl, .inr ⟨rfl, g⟩⟩

def before (a b : List UInt8) : Prop := a.length < b.length ∨ (a.length = b.length ∧ a < b)

theorem dig_small {n : Nat} (h : n < 10) : Lib.decDigits n = [UInt8.ofNat (48 + n)] := by rw [Lib.decDigits, dif_pos h]
theorem dig_big {n : Nat} (h : ¬ n < 10) : Lib.decDigits n = Lib.decDigits (n / 10) ++ [UInt8.ofNat (48 + n % 10)] := by rw [Lib.decDigits, dif_neg h]
theorem dig_pos (n : Nat) : 1 ≤ (Lib.decDigits n).length := by
  by_cases h : n < 10
  · rw [dig_small h]; simp
  · rw [dig_big h]; simp
theorem d8_lt {a b : Nat} (ha : a < 10) (hb : b < 10) : UInt8.ofNat (48 + a) < UInt8.ofNat (48 + b) ↔ a < b := by
  rw [UInt8.lt_iff_toNat_lt]
  simp
  omega

theorem before_of_lt : ∀ (m n : Nat), n < m → before (Lib.decDigits n) (Lib.decDigits m) := by
  intro m
  induction m using Nat.strongRecOn with
  | _ m ih =>
    intro n h
    by_cases hm : m < 10
    · have hn : n < 10 := by omega
      rw [dig_small hm, dig_small hn]
      refine .inr ⟨rfl, ?_⟩
      rw [List.cons_lt_cons_iff]
      exact .inl ((d8_lt hn hm).2 h)
    · rw [dig_big hm]
      by_cases hn : n < 10
      · rw [dig_small hn]
        refine .inl ?_
        have := dig_pos (m / 10)
        simp; omega
      · rw [dig_big hn]
        rcases Nat.lt_or_ge (n / 10) (m / 10) with h1 | h1
        · rcases ih (m / 10) (by omega) (n / 10) h1 with h2 | ⟨h2, h3⟩
          · exact .inl (by simp; omega)
          · exact .inr ⟨by simp [h2], (snoc_lt h2).2 (.inl h3)⟩
        · have e : n / 10 = m / 10 := by omega
          rw [e]
          exact .inr ⟨by simp, (snoc_lt rfl).2 (.inr ⟨rfl, (d8_lt (by omega) (by omega)).2 (by omega)⟩)⟩

theorem before_asymm {a b : List UInt8} (h : before a b) : ¬ before b a := by
  rintro (h2 | ⟨h2, h3⟩)
  · rcases h with h | ⟨h, _⟩ <;> omega
  · rcases h with h | ⟨_, h⟩
    · omega
    · exact asymm8 h h3
theorem before_irrefl (a : List UInt8) : ¬ before a a := fun h => before_asymm h h

theorem before_iff (n m : Nat) : n < m ↔ before (Lib.decDigits n) (Lib.decDigits m) := by
  refine ⟨before_of_lt m n, fun h => ?_⟩
  rcases Nat.lt_trichotomy n m with h1 | h1 | h1
  · exact h1
  · subst h1; exact absurd h (before_irrefl _)
  · exact absurd h (before_asymm (before_of_lt n m h1))
theorem dig_inj {n m : Nat} (h : Lib.decDigits n = Lib.decDigits m) : n = m := by
  rcases Nat.lt_trichotomy n m with h1 | h1 | h1
  · have := before_of_lt m n h1; rw [h] at this; exact absurd this (before_irrefl _)
  · exact h1
  · have := before_of_lt n m h1; rw [h] at this; exact absurd this (before_irrefl _)
end Go.Proofs.YtlcgjeafmbbipaaDoor

/- Numbers and their digits: plain laws; the reference's numbers. -/
namespace Go.Proofs.YtlcgjeafmbbipaaDoor
open Go Go.Proofs Go.Ua Go.Extern
set_option linter.unusedVariables false
set_option linter.unusedSimpArgs false

theorem valN_snoc (p : List UInt8) (c : UInt8) : valN (p ++ [c]) = 10 * valN p + (c.toNat - 48) := by simp [valN, List.foldl_append]
theorem dig_byte {d : Nat} (h : d < 10) : (UInt8.ofNat (48 + d)).toNat = 48 + d := by rw [UInt8.toNat_ofNat']; omega
theorem dig_head : ∀ n : Nat, 1 ≤ n → ∃ c r, Lib.decDigits n = c :: r ∧ c ≠ 48
  | n, h => by
    by_cases hs : n < 10
    · refine ⟨_, _, dig_small hs, fun e => ?_⟩
      have := congrArg UInt8.toNat e
      rw [dig_byte hs] at this
      simp at this; omega
    · obtain ⟨c, r, h1, h2⟩ := dig_head (n / 10) (by omega)
      rw [dig_big hs, h1]
      exact ⟨c, r ++ [UInt8.ofNat (48 + n % 10)], rfl, h2⟩
theorem dig_val : ∀ n : Nat, valN (Lib.decDigits n) = n
  | n => by
    by_cases hs : n < 10
    · rw [dig_small hs]
      simp only [valN, List.foldl_cons, List.foldl_nil]
      rw [dig_byte hs]; omega
    · have ih := dig_val (n / 10)
      rw [dig_big hs, valN_snoc, ih, dig_byte (Nat.mod_lt _ (by decide))]
      omega
theorem dig_all : ∀ n : Nat, (Lib.decDigits n).all digB = true
  | n => by
    by_cases hs : n < 10
    · rw [dig_small hs]
      simp only [List.all_cons, List.all_nil, Bool.and_true]
      unfold digB digitN
      rw [dig_byte hs, decide_eq_true (by omega), decide_eq_true (by omega)]; rfl
    · have ih := dig_all (n / 10)
      rw [dig_big hs, List.all_append, ih]
      simp only [List.all_cons, List.all_nil, Bool.and_true, Bool.true_and]
      unfold digB digitN
      rw [dig_byte (Nat.mod_lt _ (by decide)), decide_eq_true (by omega), decide_eq_true (by omega)]; rfl
theorem dig_len : ∀ (k n : Nat), n < 10 ^ (k + 1) → (Lib.decDigits n).length ≤ k + 1
  | 0, n, h => by rw [dig_small h]; simp
  | k + 1, n, h => by
    have h : n < 10 ^ (k + 1) * 10 := h
    by_cases hs : n < 10
    · rw [dig_small hs]; simp
    · have := dig_len k (n / 10) (by omega)
      rw [dig_big hs]
      simp; omega
/-- Digits that don't begin with a needless 0 are the digits of their number. -/
theorem val_dig {w : List UInt8} (h0 : w ≠ []) (hall : w.all digB = true) (hlead : 1 < w.length → w[0]? ≠ some 48) : Lib.decDigits (valN w) = w := by
  induction hn : w.length using Nat.strongRecOn generalizing w with
  | _ k ih =>
    obtain ⟨p, c, rfl⟩ : ∃ p c, w = p ++ [c] := ⟨w.dropLast, w.getLast h0, (List.dropLast_concat_getLast h0).symm⟩
    simp only [List.all_append, List.all_cons, List.all_nil, Bool.and_true, Bool.and_eq_true] at hall
    have hd := digB_le hall.2
    rw [valN_snoc]
    have hc : UInt8.ofNat (48 + (c.toNat - 48)) = c := by
      rw [show 48 + (c.toNat - 48) = c.toNat by omega, UInt8.ofNat_toNat]
    by_cases hp : p = []
    · subst hp
      rw [show valN [] = 0 from rfl, dig_small (by omega)]
      simp only [Nat.mul_zero, Nat.zero_add, List.nil_append]
      rw [hc]
    · have hlen : 1 < (p ++ [c]).length := by
        have := List.length_pos_iff.2 hp
        simp; omega
      have hl := hlead hlen
      rw [List.getElem?_append_left (List.length_pos_iff.2 hp)] at hl
      have := ih p.length (by simp at hn; omega) (w := p) hp hall.1 (fun _ => hl) rfl
      have hpos : 1 ≤ valN p := by
        rcases Nat.eq_zero_or_pos (valN p) with e | e
        · rw [e, dig_small (by decide)] at this
          rw [← this] at hl
          exact absurd rfl hl
        · exact e
      rw [dig_big (by omega), show (10 * valN p + (c.toNat - 48)) / 10 = valN p by omega, show (10 * valN p + (c.toNat - 48)) % 10 = c.toNat - 48 by omega, this, hc]
theorem num_dig {w : List UInt8} (hall : w.all digB = true) (h9 : w.length ≤ 9) : numForm w = decide (Lib.decDigits (valN w) = w) := by
  rw [Bool.eq_iff_iff, decide_eq_true_eq]
  unfold numForm
  constructor
  · intro h
    simp only [Bool.and_eq_true, decide_eq_true_eq, Bool.not_eq_true', Bool.and_eq_false_iff, decide_eq_false_iff_not] at h
    refine val_dig (by rintro rfl; simp at h) hall fun h1 => ?_
    rcases h.1.2 with h2 | h2
    · exact absurd h1 h2
    · exact h2
  · intro h
    have hp := dig_pos (valN w)
    rw [h] at hp
    rw [decide_eq_true hp, decide_eq_true h9, hall]
    simp only [Bool.true_and, Bool.and_true, Bool.not_eq_true', Bool.and_eq_false_iff, decide_eq_false_iff_not]
    by_cases h1 : 1 < w.length
    · right
      intro h2
      have hv : 1 ≤ valN w := by
        rcases Nat.eq_zero_or_pos (valN w) with e | e
        · rw [e, dig_small (by decide)] at h
          rw [← h] at h1
          exact absurd h1 (by simp)
        · exact e
      obtain ⟨c, r, h3, h4⟩ := dig_head _ hv
      rw [← h, h3] at h2
      exact h4 (Option.some.inj h2)
    · exact .inl h1
theorem num_of_dig {n : Nat} (h : n ≤ 999999999) : numForm (Lib.decDigits n) = true := by
  rw [num_dig (dig_all n) (dig_len 8 n (by omega)), dig_val]
  exact decide_eq_true rfl
end Go.Proofs.YtlcgjeafmbbipaaDoor

/- The reference's digits and numbers. -/
namespace Go.Proofs.YtlcgjeafmbbipaaDoor
open Go Go.Proofs Go.Ua Go.Extern
set_option linter.unusedVariables false
set_option linter.unusedSimpArgs false
set_option maxRecDepth 10000

theorem t_digit {F : Fam} (hF : F = Fam.real) {k : Nat} {v : Int} (hv : v = k) (hk : k < 10) :
    F .hasStr [.s (.int .u8 (F .wrap .u8 (F .wrap .i64 (F .add 48 v))))] = true ∧ F .ofStr [.s (.int .u8 (F .wrap .u8 (F .wrap .i64 (F .add 48 v))))] = [UInt8.ofNat (48 + k)] := by
  have h := l_digit hF hv hk
  rw [hF] at h ⊢
  rw [f_hasStr, f_ofStr]
  have h : strOf [.s (.int .u8 (Fam.real .wrap .u8 (Fam.real .wrap .i64 (Fam.real .add 48 v))))] = some [UInt8.ofNat (48 + k)] := h
  rw [h]
  exact ⟨rfl, rfl⟩

theorem RefDigitsI_spec (n : Int) : ESpec Tryd.prog 43 [.d (.s (.int .i64 n))] (fun x => x = .d (.s (.str (Lib.decDigits n.toNat)))) := by
  obtain ⟨D, hD⟩ : ∃ z, z = Lib.decDigits n.toNat := ⟨_, rfl⟩
  rw [← hD]
  refine ESpec.enter Tryd.func43 (by kernel_rfl) rfl (Nat.le_of_ble_eq_true rfl) fun hok cx hnt hfr => ?_
  obtain ⟨F, hF⟩ := real_ex
  refine AK.runT hF tabOK hmix hnt hfr true [] trivial ?_
  conv => arg 4; cbv
  have hok1 : n ≤ 9223372036854775807 := hok.1.2
  have hDl : D.length ≤ 21 := by rw [hD]; exact decDigits_le _ (by omega)
  have start : ∀ (kv : Int), (F .ltI n 0 = true → kv = 0) → (F .ltI n 0 = false → kv = n) → kv = (n.toNat : Int) := fun kv h1 h2 => by
    cases h : F .ltI n 0
    · rw [h2 h]; simp only [hF, f_ltI, f_leI, f_eqI, f_eqS, f_eqB, f_not, f_andB, f_orB, f_lenS, f_lenD, f_hasS, f_atS, f_hasC, f_subS, f_hasCat, f_app, f_wrap, f_add, f_sub, f_mul, f_appD, f_fits, f_hasV, f_subV, decide_eq_true_eq, decide_eq_false_iff_not, beq_iff_eq, beq_eq_false_iff_ne, Bool.and_eq_true, Bool.and_eq_false_iff, Bool.not_eq_true, Bool.not_eq_false, Bool.not_eq_eq_eq_not, Bool.not_true, Bool.not_false] at h; omega
    · rw [h1 h]; simp only [hF, f_ltI, f_leI, f_eqI, f_eqS, f_eqB, f_not, f_andB, f_orB, f_lenS, f_lenD, f_hasS, f_atS, f_hasC, f_subS, f_hasCat, f_app, f_wrap, f_add, f_sub, f_mul, f_appD, f_fits, f_hasV, f_subV, decide_eq_true_eq, decide_eq_false_iff_not, beq_iff_eq, beq_eq_false_iff_ne, Bool.and_eq_true, Bool.and_eq_false_iff, Bool.not_eq_true, Bool.not_eq_false, Bool.not_eq_eq_eq_not, Bool.not_true, Bool.not_false] at h; omega
  refine AKt.node (fun hb0 => ?_) (fun hb0 => ?_)
  case' refine_1 => have hst := start 0 (fun _ => rfl) (fun h => by rw [hb0] at h; cases h)
  case' refine_2 => have hst := start n (fun h => by rw [hb0] at h; cases h) (fun _ => rfl)
  all_goals
    clear start
    repeat' (first | with_reducible refine AKt.have ?_ | with_reducible refine AKt.tt ?_ | with_reducible refine AKt.ff ?_ | with_reducible refine AKt.yes (by assumption) ?_ | with_reducible refine AKt.no (by assumption) ?_ | with_reducible refine AKt.node (fun hb => ?_) (fun hb => ?_) | with_reducible refine AKt.need ?_ (fun hb => ?_) | with_reducible refine AKt.leaf ?_ | ((with_reducible show _ = true); assumption))
    refine AKp.enterLoop 0 ?_
    conv => arg 7; cbv
    refine AKl.invT hF tabOK hmix hnt hfr true [] trivial (fun m vs hs => ∃ (k : Nat) (kv : Int) (s : List UInt8), k = m ∧ kv = k ∧ k ≤ 9223372036854775807 ∧ D = Lib.decDigits k ++ s ∧ vs = [(0, .d (.s (.int .i64 kv))), (3, .d (.s (.str s)))] ∧ hs = []) n.toNat ⟨n.toNat, _, [], rfl, hst, by omega, by simp [hD], rfl, rfl⟩ (by repeat (first | exact True.intro | refine ⟨⟨rfl, rfl⟩, ?_⟩)) (by repeat (first | exact True.intro | refine ⟨⟨rfl, rfl, rfl⟩, ?_⟩)) ?_
    rintro J m vs hs hJ ⟨k, kv, s, rfl, hkv, hk, hd, rfl, rfl⟩
    have hsl : s.length ≤ 21 := by rw [hd] at hDl; simp at hDl; omega
    have hr : F .tmod kv 10 = ((k % 10 : Nat) : Int) := l_rem10 hF hkv
    obtain ⟨rv, hrv⟩ : ∃ z : Int, z = ((k % 10 : Nat) : Int) := ⟨_, rfl⟩
    rw [← hrv] at hr
    conv => arg 4; cbv
    rw [hr]
    refine AKt.node (fun hb1 => ?_) (fun hb1 => ?_)
    · have hlt : ¬ k < 10 := by simp only [hF, f_ltI, f_leI, f_eqI, f_eqS, f_eqB, f_not, f_andB, f_orB, f_lenS, f_lenD, f_hasS, f_atS, f_hasC, f_subS, f_hasCat, f_app, f_wrap, f_add, f_sub, f_mul, f_appD, f_fits, f_hasV, f_subV, decide_eq_true_eq, decide_eq_false_iff_not, beq_iff_eq, beq_eq_false_iff_ne, Bool.and_eq_true, Bool.and_eq_false_iff, Bool.not_eq_true, Bool.not_eq_false, Bool.not_eq_eq_eq_not, Bool.not_true, Bool.not_false] at hb1; omega
      obtain ⟨g1, g2⟩ := t_digit hF hrv (Nat.mod_lt k (by decide))
      rw [g2, l_div10 hF hkv hk]
      have hca : F .hasCat [UInt8.ofNat (48 + k % 10)] s = true := t_hasCat hF (by simp; omega)
      have hap : F .app [UInt8.ofNat (48 + k % 10)] s = UInt8.ofNat (48 + k % 10) :: s := by rw [hF]; rfl
      rw [hap]
      repeat' (first | with_reducible refine AKt.have ?_ | with_reducible refine AKt.tt ?_ | with_reducible refine AKt.ff ?_ | with_reducible refine AKt.yes (by assumption) ?_ | with_reducible refine AKt.no (by assumption) ?_ | with_reducible refine AKt.node (fun hb => ?_) (fun hb => ?_) | with_reducible refine AKt.need ?_ (fun hb => ?_) | with_reducible refine AKt.leaf ?_ | ((with_reducible show _ = true); assumption))
      refine AKp.again _ hfr (by repeat (first | exact True.intro | refine ⟨⟨rfl, rfl⟩, ?_⟩)) (by repeat (first | exact True.intro | refine ⟨⟨rfl, rfl, rfl⟩, ?_⟩)) (hJ (k / 10) _ _ (by omega) ⟨k / 10, _, _, rfl, rfl, by omega, by rw [hd, dig_big hlt]; simp, rfl, rfl⟩)
    · have hlt : k < 10 := by simp only [hF, f_ltI, f_leI, f_eqI, f_eqS, f_eqB, f_not, f_andB, f_orB, f_lenS, f_lenD, f_hasS, f_atS, f_hasC, f_subS, f_hasCat, f_app, f_wrap, f_add, f_sub, f_mul, f_appD, f_fits, f_hasV, f_subV, decide_eq_true_eq, decide_eq_false_iff_not, beq_iff_eq, beq_eq_false_iff_ne, Bool.and_eq_true, Bool.and_eq_false_iff, Bool.not_eq_true, Bool.not_eq_false, Bool.not_eq_eq_eq_not, Bool.not_true, Bool.not_false] at hb1; omega
      obtain ⟨g1, g2⟩ := t_digit hF hkv hlt
      have hca : F .hasCat [UInt8.ofNat (48 + k)] s = true := t_hasCat hF (by simp; omega)
      have hap : F .app [UInt8.ofNat (48 + k)] s = UInt8.ofNat (48 + k) :: s := by rw [hF]; rfl
      rw [g2, hap]
      repeat' (first | with_reducible refine AKt.have ?_ | with_reducible refine AKt.tt ?_ | with_reducible refine AKt.ff ?_ | with_reducible refine AKt.yes (by assumption) ?_ | with_reducible refine AKt.no (by assumption) ?_ | with_reducible refine AKt.node (fun hb => ?_) (fun hb => ?_) | with_reducible refine AKt.need ?_ (fun hb => ?_) | with_reducible refine AKt.leaf ?_ | ((with_reducible show _ = true); assumption))
      refine AKp.doneE tabOK hfr (by rfl) ?_
      show _ = _
      simp only [tupAV]
      rw [hd, dig_small hlt]
      rfl
def φRefDigits (u : Int → List UInt8) : List AV → Option (Bool × AV)
  | [.d (.s (.int .i64 n))] => some (true, .d (.s (.str (u n))))
  | _ => none
theorem φRefDigits_ok : SpOK Tryd.prog 43 (φRefDigits (fun n => Lib.decDigits n.toNat)) := by
  intro xs b x h hb
  unfold φRefDigits at h
  split at h
  · simp only [Option.some.injEq, Prod.mk.injEq] at h
    obtain ⟨rfl, rfl⟩ := h
    exact RefDigitsI_spec _
  · cases h

theorem RefNumber_spec (w : List UInt8) (least most : Int) : ESpec Tryd.prog 27 [.d (.s (.str w)), .d (.s (.int .i64 least)), .d (.s (.int .i64 most))] (fun x => x = .tup [.d (.s (.int .i64 (numV w least most))), .d (.s (.bool (numB w least most)))]) := by
  obtain ⟨uRefDigits, huRefDigits⟩ : ∃ u : Int → List UInt8, u = fun n => Lib.decDigits n.toNat := ⟨_, rfl⟩
  have hG : TblOK Tryd.prog [(43, .p (φRefDigits uRefDigits))] := ⟨(by rw [huRefDigits]; exact φRefDigits_ok), trivial⟩
  obtain ⟨zv, hzv⟩ : ∃ z, z = numV w least most := ⟨_, rfl⟩
  obtain ⟨zb, hzb⟩ : ∃ z, z = numB w least most := ⟨_, rfl⟩
  have bad : ¬ (numForm w = true ∧ least ≤ (valN w : Int) ∧ (valN w : Int) ≤ most) → zv = 0 ∧ zb = false := fun h => by
    rw [hzv, hzb, numV, numB, numberF, if_neg h]; exact ⟨rfl, rfl⟩
  have good : numForm w = true → least ≤ (valN w : Int) → (valN w : Int) ≤ most → zv = (valN w : Int) ∧ zb = true := fun h1 h2 h3 => by
    rw [hzv, hzb, numV, numB, numberF, if_pos ⟨h1, h2, h3⟩]; exact ⟨rfl, rfl⟩
  rw [← hzv, ← hzb]
  refine ESpec.enter Tryd.func27 (by kernel_rfl) rfl (Nat.le_of_ble_eq_true rfl) fun hok cx hnt hfr => ?_
  obtain ⟨F, hF⟩ := real_ex
  refine AK.runT hF tabOK hmix hnt hfr false _ hG ?_
  conv => arg 4; cbv
  have hwl : w.length ≤ maxLen := hok.1
  have hm : maxLen = 9223372036854775807 := by decide
  repeat' (first | with_reducible refine AKt.have ?_ | with_reducible refine AKt.tt ?_ | with_reducible refine AKt.ff ?_ | with_reducible refine AKt.yes (by assumption) ?_ | with_reducible refine AKt.no (by assumption) ?_ | with_reducible refine AKt.node (fun hb => ?_) (fun hb => ?_) | with_reducible refine AKt.need ?_ (fun hb => ?_) | with_reducible refine AKt.leaf ?_ | ((with_reducible show _ = true); assumption))
  refine AKp.enterLoop 10 ?_
  conv => arg 7; cbv
  refine AKl.invT hF tabOK hmix hnt hfr false _ hG (fun n vs hs => ∃ (i : Nat) (iv nv : Int), i + n = w.length ∧ i ≤ 10 ∧ iv = i ∧ nv = (valN (w.take i) : Nat) ∧ (w.take i).all digB = true ∧ vs = [(9, .d (.s (.int .i64 iv))), (8, .d (.s (.int .i64 nv)))] ∧ hs = []) w.length ⟨0, _, 0, by omega, by omega, rfl, by simp [valN], by simp, rfl, rfl⟩ (by repeat (first | exact True.intro | refine ⟨⟨rfl, rfl⟩, ?_⟩)) (by repeat (first | exact True.intro | refine ⟨⟨rfl, rfl, rfl⟩, ?_⟩)) ?_
  rintro J n vs hs hJ ⟨i, iv, nv, hi, hi10, hiv, hnv, hall, rfl, rfl⟩
  have hvl := valN_lt i (by omega) hall
  have hp9 : 10 ^ i ≤ 10 ^ 10 := Nat.pow_le_pow_right (by decide) hi10
  have hu : uRefDigits nv = Lib.decDigits (valN (w.take i)) := by subst huRefDigits; show Lib.decDigits nv.toNat = _; rw [hnv]; rfl
  obtain ⟨D, hD⟩ : ∃ z, z = Lib.decDigits (valN (w.take i)) := ⟨_, rfl⟩
  rw [← hD] at hu
  conv => arg 4; cbv
  rw [hu]
  have fin : ∀ T : Tree, True := fun _ => trivial
  refine AKt.node (fun hb1 => ?_) (fun hb1 => ?_)
  · have hlt : i < w.length := by simp only [hF, f_ltI, f_leI, f_eqI, f_eqS, f_eqB, f_not, f_andB, f_orB, f_lenS, f_lenD, f_hasS, f_atS, f_hasC, f_subS, f_hasCat, f_app, f_wrap, f_add, f_sub, f_mul, f_appD, f_fits, f_hasV, f_subV, decide_eq_true_eq, decide_eq_false_iff_not, beq_iff_eq, beq_eq_false_iff_ne, Bool.and_eq_true, Bool.and_eq_false_iff, Bool.not_eq_true, Bool.not_eq_false, Bool.not_eq_eq_eq_not, Bool.not_true, Bool.not_false] at hb1; omega
    refine AKt.node (fun hb2 => ?_) (fun hb2 => ?_)
    · have hlt2 : i < 10 := by simp only [hF, f_ltI, f_leI, f_eqI, f_eqS, f_eqB, f_not, f_andB, f_orB, f_lenS, f_lenD, f_hasS, f_atS, f_hasC, f_subS, f_hasCat, f_app, f_wrap, f_add, f_sub, f_mul, f_appD, f_fits, f_hasV, f_subV, decide_eq_true_eq, decide_eq_false_iff_not, beq_iff_eq, beq_eq_false_iff_ne, Bool.and_eq_true, Bool.and_eq_false_iff, Bool.not_eq_true, Bool.not_eq_false, Bool.not_eq_eq_eq_not, Bool.not_true, Bool.not_false] at hb2; omega
      obtain ⟨c, hc⟩ : ∃ c, w[i]? = some c := ⟨_, List.getElem?_eq_getElem hlt⟩
      have hs := t_hasS hF hlt hiv
      have hno := all_false (p := digB) hc
      have hyes := all_take_succ (p := digB) hc hall
      have hvt := valN_take hc
      have hdb : digB c = (decide (48 ≤ (c.toNat : Int)) && decide ((c.toNat : Int) ≤ 57)) := rfl
      rw [t_atS hF hc hiv]
      have bad2 : digB c = false → zv = 0 ∧ zb = false := fun h => bad (by
        rintro ⟨h1, _⟩
        unfold numForm at h1
        rw [hno h] at h1
        simp at h1)
      have good2 : digB c = true → F .wrap .i64 (F .sub (F .wrap .i64 (F .add (F .wrap .i64 (F .mul 10 nv)) (F .wrap .i64 (c.toNat : Int)))) 48) = ((valN (w.take (i + 1)) : Nat) : Int) := fun h => by
        have := digB_le h
        rw [hF, hvt, hnv]
        show IntKind.i64.wrap (IntKind.i64.wrap (IntKind.i64.wrap (10 * ((valN (w.take i) : Nat) : Int)) + IntKind.i64.wrap (c.toNat : Int)) - 48) = _
        rw [w_i64 (n := 10 * ((valN (w.take i) : Nat) : Int)) (by omega) (by omega), w_i64 (n := (c.toNat : Int)) (by omega) (by omega), w_i64 (n := 10 * ((valN (w.take i) : Nat) : Int) + (c.toNat : Int)) (by omega) (by omega), w_i64 (by omega) (by omega)]
        omega
      repeat' (first | with_reducible refine AKt.have ?_ | with_reducible refine AKt.tt ?_ | with_reducible refine AKt.ff ?_ | with_reducible refine AKt.yes (by assumption) ?_ | with_reducible refine AKt.no (by assumption) ?_ | with_reducible refine AKt.node (fun hb => ?_) (fun hb => ?_) | with_reducible refine AKt.need ?_ (fun hb => ?_) | with_reducible refine AKt.leaf ?_ | ((with_reducible show _ = true); assumption))
      all_goals first
        | (have hd : digB c = true := by
             rw [hdb]
             clear hJ hno hyes bad good bad2 good2
             simp only [hF, f_ltI, f_leI, f_eqI, f_eqS, f_eqB, f_not, f_andB, f_orB, f_lenS, f_lenD, f_hasS, f_atS, f_hasC, f_subS, f_hasCat, f_app, f_wrap, f_add, f_sub, f_mul, f_appD, f_fits, f_hasV, f_subV, decide_eq_true_eq, decide_eq_false_iff_not, beq_iff_eq, beq_eq_false_iff_ne, Bool.and_eq_true, Bool.and_eq_false_iff, Bool.not_eq_true, Bool.not_eq_false, Bool.not_eq_eq_eq_not, Bool.not_true, Bool.not_false] at *
             grind
           rw [good2 hd]
           exact AKp.again _ hfr (by repeat (first | exact True.intro | refine ⟨⟨rfl, rfl⟩, ?_⟩)) (by repeat (first | exact True.intro | refine ⟨⟨rfl, rfl, rfl⟩, ?_⟩)) (hJ (n - 1) _ _ (by omega) ⟨i + 1, _, _, by omega, by omega, inc_i hF hiv (by omega), rfl, hyes hd, rfl, rfl⟩))
        | (refine AKp.doneE tabOK hfr (by rfl) ?_
           show _ = _
           simp only [tupAV]
           have hd : digB c = false := by
             rw [hdb]
             clear hJ hno hyes bad good bad2 good2
             simp only [hF, f_ltI, f_leI, f_eqI, f_eqS, f_eqB, f_not, f_andB, f_orB, f_lenS, f_lenD, f_hasS, f_atS, f_hasC, f_subS, f_hasCat, f_app, f_wrap, f_add, f_sub, f_mul, f_appD, f_fits, f_hasV, f_subV, decide_eq_true_eq, decide_eq_false_iff_not, beq_iff_eq, beq_eq_false_iff_ne, Bool.and_eq_true, Bool.and_eq_false_iff, Bool.not_eq_true, Bool.not_eq_false, Bool.not_eq_eq_eq_not, Bool.not_true, Bool.not_false] at *
             grind
           obtain ⟨g1, g2⟩ := bad2 hd
           rw [g1, g2])
    · have hge : ¬ i < 10 := by simp only [hF, f_ltI, f_leI, f_eqI, f_eqS, f_eqB, f_not, f_andB, f_orB, f_lenS, f_lenD, f_hasS, f_atS, f_hasC, f_subS, f_hasCat, f_app, f_wrap, f_add, f_sub, f_mul, f_appD, f_fits, f_hasV, f_subV, decide_eq_true_eq, decide_eq_false_iff_not, beq_iff_eq, beq_eq_false_iff_ne, Bool.and_eq_true, Bool.and_eq_false_iff, Bool.not_eq_true, Bool.not_eq_false, Bool.not_eq_eq_eq_not, Bool.not_true, Bool.not_false] at hb2; omega
      have hl9 : F .ltI 9 (F .lenS w) = true := by rw [hF, f_ltI, f_lenS]; exact decide_eq_true (by omega)
      have g := bad (by
        rintro ⟨h1, _⟩
        unfold numForm at h1
        rw [decide_eq_false (show ¬ w.length ≤ 9 by omega)] at h1
        simp at h1)
      rw [hl9]
      repeat' (first | with_reducible refine AKt.have ?_ | with_reducible refine AKt.tt ?_ | with_reducible refine AKt.ff ?_ | with_reducible refine AKt.yes (by assumption) ?_ | with_reducible refine AKt.no (by assumption) ?_ | with_reducible refine AKt.node (fun hb => ?_) (fun hb => ?_) | with_reducible refine AKt.need ?_ (fun hb => ?_) | with_reducible refine AKt.leaf ?_ | ((with_reducible show _ = true); assumption))
      refine AKp.doneE tabOK hfr (by rfl) ?_
      show _ = _
      simp only [tupAV]
      rw [g.1, g.2]
  · have hge : ¬ i < w.length := by simp only [hF, f_ltI, f_leI, f_eqI, f_eqS, f_eqB, f_not, f_andB, f_orB, f_lenS, f_lenD, f_hasS, f_atS, f_hasC, f_subS, f_hasCat, f_app, f_wrap, f_add, f_sub, f_mul, f_appD, f_fits, f_hasV, f_subV, decide_eq_true_eq, decide_eq_false_iff_not, beq_iff_eq, beq_eq_false_iff_ne, Bool.and_eq_true, Bool.and_eq_false_iff, Bool.not_eq_true, Bool.not_eq_false, Bool.not_eq_eq_eq_not, Bool.not_true, Bool.not_false] at hb1; omega
    rw [List.take_of_length_le (by omega)] at hnv hall hD
    have hf : w.length ≤ 9 → numForm w = decide (D = w) := fun h => by rw [num_dig hall h, hD]
    repeat' (first | with_reducible refine AKt.have ?_ | with_reducible refine AKt.tt ?_ | with_reducible refine AKt.ff ?_ | with_reducible refine AKt.yes (by assumption) ?_ | with_reducible refine AKt.no (by assumption) ?_ | with_reducible refine AKt.node (fun hb => ?_) (fun hb => ?_) | with_reducible refine AKt.need ?_ (fun hb => ?_) | with_reducible refine AKt.leaf ?_ | ((with_reducible show _ = true); assumption))
    all_goals first
      | (refine AKp.doneE tabOK hfr (by rfl) ?_
         show _ = _
         simp only [tupAV]
         have g : ¬ (numForm w = true ∧ least ≤ (valN w : Int) ∧ (valN w : Int) ≤ most) := by
           rintro ⟨h1, h2, h3⟩
           have h9 : w.length ≤ 9 := by
             unfold numForm at h1
             simp only [Bool.and_eq_true, decide_eq_true_eq] at h1
             exact h1.1.1.2
           rw [hf h9] at h1
           have h1 := of_decide_eq_true h1
           clear hJ bad good hf hall
           simp only [hF, f_ltI, f_leI, f_eqI, f_eqS, f_eqB, f_not, f_andB, f_orB, f_lenS, f_lenD, f_hasS, f_atS, f_hasC, f_subS, f_hasCat, f_app, f_wrap, f_add, f_sub, f_mul, f_appD, f_fits, f_hasV, f_subV, decide_eq_true_eq, decide_eq_false_iff_not, beq_iff_eq, beq_eq_false_iff_ne, Bool.and_eq_true, Bool.and_eq_false_iff, Bool.not_eq_true, Bool.not_eq_false, Bool.not_eq_eq_eq_not, Bool.not_true, Bool.not_false] at *
           first
             | omega
             | exact absurd h1 (by assumption)
             | grind
         obtain ⟨g1, g2⟩ := bad g
         rw [g1, g2]
         done)
      | (refine AKp.doneE tabOK hfr (by rfl) ?_
         show _ = _
         simp only [tupAV]
         have g := good (by
           have h9 : w.length ≤ 9 := by
             have := ‹F .ltI 9 (F .lenS w) = false›
             simp only [hF, f_ltI, f_leI, f_eqI, f_eqS, f_eqB, f_not, f_andB, f_orB, f_lenS, f_lenD, f_hasS, f_atS, f_hasC, f_subS, f_hasCat, f_app, f_wrap, f_add, f_sub, f_mul, f_appD, f_fits, f_hasV, f_subV, decide_eq_true_eq, decide_eq_false_iff_not, beq_iff_eq, beq_eq_false_iff_ne, Bool.and_eq_true, Bool.and_eq_false_iff, Bool.not_eq_true, Bool.not_eq_false, Bool.not_eq_eq_eq_not, Bool.not_true, Bool.not_false] at this
             omega
           rw [hf h9]
           clear hJ bad good hf hall
           simp only [hF, f_ltI, f_leI, f_eqI, f_eqS, f_eqB, f_not, f_andB, f_orB, f_lenS, f_lenD, f_hasS, f_atS, f_hasC, f_subS, f_hasCat, f_app, f_wrap, f_add, f_sub, f_mul, f_appD, f_fits, f_hasV, f_subV, decide_eq_true_eq, decide_eq_false_iff_not, beq_iff_eq, beq_eq_false_iff_ne, Bool.and_eq_true, Bool.and_eq_false_iff, Bool.not_eq_true, Bool.not_eq_false, Bool.not_eq_eq_eq_not, Bool.not_true, Bool.not_false] at *
           grind) (by clear hJ bad good hf hall; simp only [hF, f_ltI, f_leI, f_eqI, f_eqS, f_eqB, f_not, f_andB, f_orB, f_lenS, f_lenD, f_hasS, f_atS, f_hasC, f_subS, f_hasCat, f_app, f_wrap, f_add, f_sub, f_mul, f_appD, f_fits, f_hasV, f_subV, decide_eq_true_eq, decide_eq_false_iff_not, beq_iff_eq, beq_eq_false_iff_ne, Bool.and_eq_true, Bool.and_eq_false_iff, Bool.not_eq_true, Bool.not_eq_false, Bool.not_eq_eq_eq_not, Bool.not_true, Bool.not_false] at *; omega) (by clear hJ bad good hf hall; simp only [hF, f_ltI, f_leI, f_eqI, f_eqS, f_eqB, f_not, f_andB, f_orB, f_lenS, f_lenD, f_hasS, f_atS, f_hasC, f_subS, f_hasCat, f_app, f_wrap, f_add, f_sub, f_mul, f_appD, f_fits, f_hasV, f_subV, decide_eq_true_eq, decide_eq_false_iff_not, beq_iff_eq, beq_eq_false_iff_ne, Bool.and_eq_true, Bool.and_eq_false_iff, Bool.not_eq_true, Bool.not_eq_false, Bool.not_eq_eq_eq_not, Bool.not_true, Bool.not_false] at *; omega)
         rw [g.1, g.2, hnv])
def φRefNumber (u : List UInt8 → Int → Int → Int) (v : List UInt8 → Int → Int → Bool) : List AV → Option (Bool × AV)
  | [.d (.s (.str w)), .d (.s (.int .i64 a)), .d (.s (.int .i64 b))] => some (true, .tup [.d (.s (.int .i64 (u w a b))), .d (.s (.bool (v w a b)))])
  | _ => none
theorem φRefNumber_ok : SpOK Tryd.prog 27 (φRefNumber (numV) (numB)) := by
  intro xs b x h hb
  unfold φRefNumber at h
  split at h
  · simp only [Option.some.injEq, Prod.mk.injEq] at h
    obtain ⟨rfl, rfl⟩ := h
    exact RefNumber_spec _ _ _
  · cases h
theorem hexOK_C : ∀ d : Nat, d < 16 → hexOK (hexC d) = true ∧ hexV (hexC d) = d := by decide
theorem hexN_fold : ∀ (k n : Nat), n < 16 ^ k → (hexN k n).all hexOK = true ∧ foldH (hexN k n) = n
  | 0, n, h => by
    have : n = 0 := by simpa using h
    subst this
    exact ⟨rfl, rfl⟩
  | k + 1, n, h => by
    have h : n < 16 ^ k * 16 := h
    obtain ⟨g1, g2⟩ := hexN_fold k (n / 16) (by omega)
    obtain ⟨c1, c2⟩ := hexOK_C (n % 16) (Nat.mod_lt _ (by decide))
    rw [hexN]
    refine ⟨by rw [List.all_append, g1]; simp [c1], ?_⟩
    have : foldH (hexN k (n / 16) ++ [hexC (n % 16)]) = 16 * foldH (hexN k (n / 16)) + hexV (hexC (n % 16)) := by simp [foldH, List.foldl_append]
    rw [this, g2, c2]
    omega
theorem unhex_hex {h : Int} (h0 : 0 ≤ h) (h1 : h ≤ 18446744073709551615) : unhexB (hexN 16 h.toNat) = true ∧ unhexV (hexN 16 h.toNat) = h := by
  obtain ⟨g1, g2⟩ := hexN_fold 16 h.toNat (by omega)
  have hb : unhexB (hexN 16 h.toNat) = true := by rw [unhexB, g1, hexN_len]; rfl
  refine ⟨hb, ?_⟩
  rw [unhexV, if_pos hb, g2]
  omega

def joinP (l : List Dat) (s : List UInt8) : Bool := isStrs l && (decide (l.length ≤ 140737488355328) && decide ((Lib.join (unStr l) s).length ≤ 140737488355328))
theorem StrJoinD_spec (l : List Dat) (s : List UInt8) (h : joinP l s = true) : ESpec Tryd.prog 39 [.d (.view 1 l), .d (.s (.str s))] (fun x => x = .d (.s (.str (Lib.join (unStr l) s)))) := by
  simp only [joinP, Bool.and_eq_true, decide_eq_true_eq] at h
  have := StrJoin_spec (unStr l) s (by unfold unStr; rw [List.length_map]; exact h.2.1) h.2.2
  rwa [strDs_unStr h.1] at this
def φSJoin (p : List Dat → List UInt8 → Bool) (u : List Dat → List UInt8 → List UInt8) : List AV → Option (Bool × AV)
  | [.d (.view 1 l), .d (.s (.str s))] => some (p l s, .d (.s (.str (u l s))))
  | _ => none
theorem φSJoin_ok : SpOK Tryd.prog 39 (φSJoin (joinP) (fun l s => Lib.join (unStr l) s)) := by
  intro xs b x h hb
  unfold φSJoin at h
  split at h
  · simp only [Option.some.injEq, Prod.mk.injEq] at h
    obtain ⟨rfl, rfl⟩ := h
    exact StrJoinD_spec _ _ hb
  · cases h
theorem join32_len {n : Nat} : ∀ {ws : List (List UInt8)}, (∀ w, w ∈ ws → w.length ≤ n) → (Lib.join ws [32]).length ≤ (n + 1) * ws.length
  | [], _ => by simp [Lib.join_nil]
  | [a], h => by
    have := h a (by simp)
    rw [Lib.join_one]; simp; omega
  | a :: b :: r, h => by
    have h1 := h a (by simp)
    have h2 := join32_len (ws := b :: r) fun w hw => h w (List.mem_cons_of_mem _ hw)
    rw [join_cons2]
    simp only [List.length_append, List.length_cons] at h2 ⊢
    rw [Nat.mul_add]
    omega
/-- Few short words are joined. -/
theorem joinP_of {ws : List (List UInt8)} {n : Nat} (hl : ws.length ≤ 1000) (hw : ∀ w, w ∈ ws → w.length ≤ n) (hn : n ≤ 100000000) : joinP (strDs ws) [32] = true := by
  have h3 := join32_len hw
  have h4 : (n + 1) * ws.length ≤ 100000001 * 1000 := Nat.mul_le_mul (by omega) hl
  unfold joinP
  rw [isStrs_strDs, unStr_strDs, strDs_length, decide_eq_true (by omega), decide_eq_true (by omega)]
  rfl
end Go.Proofs.YtlcgjeafmbbipaaDoor
