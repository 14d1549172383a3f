/- The library of this claim and its walks, part 13, joined out of smaller texts. No statement stands in it. -/
import Derived.Test.YtialapjchamkfaaDoorUaM12
import Derived.Test.YtialapjchamkfaaDoorProg
/- The types of this program, as the evaluator needs them; what its package variables hold. -/
namespace Go.Proofs.YtialapjchamkfaaDoor
open Go Go.Proofs Go.Ua
set_option linter.unusedVariables false
def pow10Cs : List Value := Lib.pow10Tab.map fun z => Value.int .u64 z
instance : Globs Tryd.prog := ⟨fun b p => (b = 1 ∧ p = fun cs => cs = pow10Cs) ∨ (b = 0 ∧ p = fun cs => ∃ m, cs[0]? = some (Value.int .i64 m)) ∨ (b = 5 ∧ p = fun cs => cs[15]? = some (Value.int .u8 4))⟩
/-- The types that the functions of this seat name. -/
def tab : Tab := [
  (1, { k := .func, size := 1, bytes := 8, zero := [.fn0] }),
  (2, { k := .int .i64, size := 1, bytes := 8, zero := [.int .i64 0] }),
  (3, { k := .int .i64, size := 1, bytes := 8, zero := [.int .i64 0] }),
  (4, { k := .bool, size := 1, bytes := 1, zero := [.bool false] }),
  (5, { k := .int .u8, size := 1, bytes := 1, zero := [.int .u8 0] }),
  (9, { k := .string, size := 1, bytes := 16, zero := [.str []] }),
  (20, { k := .iface, size := 1, bytes := 16, zero := [.if0] }),
  (21, { k := .int .i32, size := 1, bytes := 4, zero := [.int .i32 0] }),
  (22, { k := .func, size := 1, bytes := 8, zero := [.fn0] }),
  (23, { k := .func, size := 1, bytes := 8, zero := [.fn0] }),
  (24, { k := .slice 9, size := 1, bytes := 24, zero := [.sl0] }),
  (25, { k := .func, size := 1, bytes := 8, zero := [.fn0] }),
  (26, { k := .func, size := 1, bytes := 8, zero := [.fn0] }),
  (27, { k := .slice 5, size := 1, bytes := 24, zero := [.sl0] }),
  (28, { k := .func, size := 1, bytes := 8, zero := [.fn0] }),
  (30, { k := .func, size := 1, bytes := 8, zero := [.fn0] }),
  (31, { k := .func, size := 1, bytes := 8, zero := [.fn0] }),
  (32, { k := .func, size := 1, bytes := 8, zero := [.fn0] }),
  (33, { k := .func, size := 1, bytes := 8, zero := [.fn0] }),
  (34, { k := .func, size := 1, bytes := 8, zero := [.fn0] }),
  (35, { k := .func, size := 1, bytes := 8, zero := [.fn0] }),
  (36, { k := .int .u64, size := 1, bytes := 8, zero := [.int .u64 0] }),
  (38, { k := .func, size := 1, bytes := 8, zero := [.fn0] }),
  (40, { k := .func, size := 1, bytes := 8, zero := [.fn0] }),
  (41, { k := .func, size := 1, bytes := 8, zero := [.fn0] }),
  (42, { k := .func, size := 1, bytes := 8, zero := [.fn0] }),
  (43, { k := .func, size := 1, bytes := 8, zero := [.fn0] }),
  (44, { k := .func, size := 1, bytes := 8, zero := [.fn0] }),
  (45, { k := .func, size := 1, bytes := 8, zero := [.fn0] }),
  (46, { k := .func, size := 1, bytes := 8, zero := [.fn0] }),
  (47, { k := .func, size := 1, bytes := 8, zero := [.fn0] }),
  (48, { k := .func, size := 1, bytes := 8, zero := [.fn0] }),
  (49, { k := .func, size := 1, bytes := 8, zero := [.fn0] }),
  (50, { k := .func, size := 1, bytes := 8, zero := [.fn0] }),
  (51, { k := .func, size := 1, bytes := 8, zero := [.fn0] }),
  (52, { k := .int .u64, size := 1, bytes := 8, zero := [.int .u64 0] }),
  (53, { k := .func, size := 1, bytes := 8, zero := [.fn0] }),
  (54, { k := .func, size := 1, bytes := 8, zero := [.fn0] }),
  (55, { k := .func, size := 1, bytes := 8, zero := [.fn0] }),
  (56, { k := .slice 58, size := 1, bytes := 24, zero := [.sl0] }),
  (57, { k := .struct [(0, 3), (1, 3)], size := 2, bytes := 16, zero := [.int .i64 0, .int .i64 0], eq := true }),
  (58, { k := .struct [(0, 3), (1, 3)], size := 2, bytes := 16, zero := [.int .i64 0, .int .i64 0], eq := true }),
  (59, { k := .pointer 61, size := 1, bytes := 8, zero := [.ptr0] }),
  (60, { k := .struct [(0, 59), (1, 27)], size := 2, bytes := 32, zero := [.ptr0, .sl0] }),
  (61, { k := .struct [(0, 59), (1, 27)], size := 2, bytes := 32, zero := [.ptr0, .sl0] }),
  (62, { k := .func, size := 1, bytes := 8, zero := [.fn0] }),
  (63, { k := .iface, size := 1, bytes := 16, zero := [.if0] }),
  (64, { k := .iface, size := 1, bytes := 16, zero := [.if0] }),
  (66, { k := .func, size := 1, bytes := 8, zero := [.fn0] }),
  (67, { k := .func, size := 1, bytes := 8, zero := [.fn0] }),
  (69, { k := .func, size := 1, bytes := 8, zero := [.fn0] }),
  (70, { k := .func, size := 1, bytes := 8, zero := [.fn0] }),
  (71, { k := .func, size := 1, bytes := 8, zero := [.fn0] }),
  (72, { k := .func, size := 1, bytes := 8, zero := [.fn0] }),
  (73, { k := .func, size := 1, bytes := 8, zero := [.fn0] }),
  (74, { k := .func, size := 1, bytes := 8, zero := [.fn0] }),
  (75, { k := .func, size := 1, bytes := 8, zero := [.fn0] }),
  (76, { k := .pointer 5, size := 1, bytes := 8, zero := [.ptr0] }),
  (77, { k := .array 24 5, size := 24, bytes := 24, zero := [.int .u8 0, .int .u8 0, .int .u8 0, .int .u8 0, .int .u8 0, .int .u8 0, .int .u8 0, .int .u8 0, .int .u8 0, .int .u8 0, .int .u8 0, .int .u8 0, .int .u8 0, .int .u8 0, .int .u8 0, .int .u8 0, .int .u8 0, .int .u8 0, .int .u8 0, .int .u8 0, .int .u8 0, .int .u8 0, .int .u8 0, .int .u8 0] }),
  (78, { k := .func, size := 1, bytes := 8, zero := [.fn0] }),
  (79, { k := .func, size := 1, bytes := 8, zero := [.fn0] }),
  (81, { k := .func, size := 1, bytes := 8, zero := [.fn0] }),
  (82, { k := .int .u32, size := 1, bytes := 4, zero := [.int .u32 0] }),
  (84, { k := .func, size := 1, bytes := 8, zero := [.fn0] }),
  (86, { k := .func, size := 1, bytes := 8, zero := [.fn0] }),
  (87, { k := .func, size := 1, bytes := 8, zero := [.fn0] }),
  (89, { k := .func, size := 1, bytes := 8, zero := [.fn0] }),
  (92, { k := .func, size := 1, bytes := 8, zero := [.fn0] }),
  (93, { k := .func, size := 1, bytes := 8, zero := [.fn0] }),
  (94, { k := .func, size := 1, bytes := 8, zero := [.fn0] }),
  (95, { k := .array 20 36, size := 20, bytes := 160, zero := [.int .u64 0, .int .u64 0, .int .u64 0, .int .u64 0, .int .u64 0, .int .u64 0, .int .u64 0, .int .u64 0, .int .u64 0, .int .u64 0, .int .u64 0, .int .u64 0, .int .u64 0, .int .u64 0, .int .u64 0, .int .u64 0, .int .u64 0, .int .u64 0, .int .u64 0, .int .u64 0] }),
  (96, { k := .array 65 5, size := 65, bytes := 65, zero := [.int .u8 0, .int .u8 0, .int .u8 0, .int .u8 0, .int .u8 0, .int .u8 0, .int .u8 0, .int .u8 0, .int .u8 0, .int .u8 0, .int .u8 0, .int .u8 0, .int .u8 0, .int .u8 0, .int .u8 0, .int .u8 0, .int .u8 0, .int .u8 0, .int .u8 0, .int .u8 0, .int .u8 0, .int .u8 0, .int .u8 0, .int .u8 0, .int .u8 0, .int .u8 0, .int .u8 0, .int .u8 0, .int .u8 0, .int .u8 0, .int .u8 0, .int .u8 0, .int .u8 0, .int .u8 0, .int .u8 0, .int .u8 0, .int .u8 0, .int .u8 0, .int .u8 0, .int .u8 0, .int .u8 0, .int .u8 0, .int .u8 0, .int .u8 0, .int .u8 0, .int .u8 0, .int .u8 0, .int .u8 0, .int .u8 0, .int .u8 0, .int .u8 0, .int .u8 0, .int .u8 0, .int .u8 0, .int .u8 0, .int .u8 0, .int .u8 0, .int .u8 0, .int .u8 0, .int .u8 0, .int .u8 0, .int .u8 0, .int .u8 0, .int .u8 0, .int .u8 0] }),
  (97, { k := .func, size := 1, bytes := 8, zero := [.fn0] }),
  (98, { k := .func, size := 1, bytes := 8, zero := [.fn0] }),
  (99, { k := .func, size := 1, bytes := 8, zero := [.fn0] }),
  (100, { k := .array 256 5, size := 256, bytes := 256, zero := [.int .u8 0, .int .u8 0, .int .u8 0, .int .u8 0, .int .u8 0, .int .u8 0, .int .u8 0, .int .u8 0, .int .u8 0, .int .u8 0, .int .u8 0, .int .u8 0, .int .u8 0, .int .u8 0, .int .u8 0, .int .u8 0, .int .u8 0, .int .u8 0, .int .u8 0, .int .u8 0, .int .u8 0, .int .u8 0, .int .u8 0, .int .u8 0, .int .u8 0, .int .u8 0, .int .u8 0, .int .u8 0, .int .u8 0, .int .u8 0, .int .u8 0, .int .u8 0, .int .u8 0, .int .u8 0, .int .u8 0, .int .u8 0, .int .u8 0, .int .u8 0, .int .u8 0, .int .u8 0, .int .u8 0, .int .u8 0, .int .u8 0, .int .u8 0, .int .u8 0, .int .u8 0, .int .u8 0, .int .u8 0, .int .u8 0, .int .u8 0, .int .u8 0, .int .u8 0, .int .u8 0, .int .u8 0, .int .u8 0, .int .u8 0, .int .u8 0, .int .u8 0, .int .u8 0, .int .u8 0, .int .u8 0, .int .u8 0, .int .u8 0, .int .u8 0, .int .u8 0, .int .u8 0, .int .u8 0, .int .u8 0, .int .u8 0, .int .u8 0, .int .u8 0, .int .u8 0, .int .u8 0, .int .u8 0, .int .u8 0, .int .u8 0, .int .u8 0, .int .u8 0, .int .u8 0, .int .u8 0, .int .u8 0, .int .u8 0, .int .u8 0, .int .u8 0, .int .u8 0, .int .u8 0, .int .u8 0, .int .u8 0, .int .u8 0, .int .u8 0, .int .u8 0, .int .u8 0, .int .u8 0, .int .u8 0, .int .u8 0, .int .u8 0, .int .u8 0, .int .u8 0, .int .u8 0, .int .u8 0, .int .u8 0, .int .u8 0, .int .u8 0, .int .u8 0, .int .u8 0, .int .u8 0, .int .u8 0, .int .u8 0, .int .u8 0, .int .u8 0, .int .u8 0, .int .u8 0, .int .u8 0, .int .u8 0, .int .u8 0, .int .u8 0, .int .u8 0, .int .u8 0, .int .u8 0, .int .u8 0, .int .u8 0, .int .u8 0, .int .u8 0, .int .u8 0, .int .u8 0, .int .u8 0, .int .u8 0, .int .u8 0, .int .u8 0, .int .u8 0, .int .u8 0, .int .u8 0, .int .u8 0, .int .u8 0, .int .u8 0, .int .u8 0, .int .u8 0, .int .u8 0, .int .u8 0, .int .u8 0, .int .u8 0, .int .u8 0, .int .u8 0, .int .u8 0, .int .u8 0, .int .u8 0, .int .u8 0, .int .u8 0, .int .u8 0, .int .u8 0, .int .u8 0, .int .u8 0, .int .u8 0, .int .u8 0, .int .u8 0, .int .u8 0, .int .u8 0, .int .u8 0, .int .u8 0, .int .u8 0, .int .u8 0, .int .u8 0, .int .u8 0, .int .u8 0, .int .u8 0, .int .u8 0, .int .u8 0, .int .u8 0, .int .u8 0, .int .u8 0, .int .u8 0, .int .u8 0, .int .u8 0, .int .u8 0, .int .u8 0, .int .u8 0, .int .u8 0, .int .u8 0, .int .u8 0, .int .u8 0, .int .u8 0, .int .u8 0, .int .u8 0, .int .u8 0, .int .u8 0, .int .u8 0, .int .u8 0, .int .u8 0, .int .u8 0, .int .u8 0, .int .u8 0, .int .u8 0, .int .u8 0, .int .u8 0, .int .u8 0, .int .u8 0, .int .u8 0, .int .u8 0, .int .u8 0, .int .u8 0, .int .u8 0, .int .u8 0, .int .u8 0, .int .u8 0, .int .u8 0, .int .u8 0, .int .u8 0, .int .u8 0, .int .u8 0, .int .u8 0, .int .u8 0, .int .u8 0, .int .u8 0, .int .u8 0, .int .u8 0, .int .u8 0, .int .u8 0, .int .u8 0, .int .u8 0, .int .u8 0, .int .u8 0, .int .u8 0, .int .u8 0, .int .u8 0, .int .u8 0, .int .u8 0, .int .u8 0, .int .u8 0, .int .u8 0, .int .u8 0, .int .u8 0, .int .u8 0, .int .u8 0, .int .u8 0, .int .u8 0, .int .u8 0, .int .u8 0, .int .u8 0, .int .u8 0, .int .u8 0, .int .u8 0, .int .u8 0, .int .u8 0, .int .u8 0, .int .u8 0, .int .u8 0, .int .u8 0, .int .u8 0, .int .u8 0, .int .u8 0, .int .u8 0, .int .u8 0, .int .u8 0, .int .u8 0, .int .u8 0, .int .u8 0] }),
  (101, { k := .struct [(0, 5), (1, 5)], size := 2, bytes := 2, zero := [.int .u8 0, .int .u8 0], eq := true }),
  (102, { k := .struct [(0, 5), (1, 5)], size := 2, bytes := 2, zero := [.int .u8 0, .int .u8 0], eq := true }),
  (103, { k := .array 16 102, size := 32, bytes := 32, zero := [.int .u8 0, .int .u8 0, .int .u8 0, .int .u8 0, .int .u8 0, .int .u8 0, .int .u8 0, .int .u8 0, .int .u8 0, .int .u8 0, .int .u8 0, .int .u8 0, .int .u8 0, .int .u8 0, .int .u8 0, .int .u8 0, .int .u8 0, .int .u8 0, .int .u8 0, .int .u8 0, .int .u8 0, .int .u8 0, .int .u8 0, .int .u8 0, .int .u8 0, .int .u8 0, .int .u8 0, .int .u8 0, .int .u8 0, .int .u8 0, .int .u8 0, .int .u8 0] }),
  (104, { k := .func, size := 1, bytes := 8, zero := [.fn0] }),
  (105, { k := .array 32 5, size := 32, bytes := 32, zero := [.int .u8 0, .int .u8 0, .int .u8 0, .int .u8 0, .int .u8 0, .int .u8 0, .int .u8 0, .int .u8 0, .int .u8 0, .int .u8 0, .int .u8 0, .int .u8 0, .int .u8 0, .int .u8 0, .int .u8 0, .int .u8 0, .int .u8 0, .int .u8 0, .int .u8 0, .int .u8 0, .int .u8 0, .int .u8 0, .int .u8 0, .int .u8 0, .int .u8 0, .int .u8 0, .int .u8 0, .int .u8 0, .int .u8 0, .int .u8 0, .int .u8 0, .int .u8 0] }),
  (106, { k := .array 64 5, size := 64, bytes := 64, zero := [.int .u8 0, .int .u8 0, .int .u8 0, .int .u8 0, .int .u8 0, .int .u8 0, .int .u8 0, .int .u8 0, .int .u8 0, .int .u8 0, .int .u8 0, .int .u8 0, .int .u8 0, .int .u8 0, .int .u8 0, .int .u8 0, .int .u8 0, .int .u8 0, .int .u8 0, .int .u8 0, .int .u8 0, .int .u8 0, .int .u8 0, .int .u8 0, .int .u8 0, .int .u8 0, .int .u8 0, .int .u8 0, .int .u8 0, .int .u8 0, .int .u8 0, .int .u8 0, .int .u8 0, .int .u8 0, .int .u8 0, .int .u8 0, .int .u8 0, .int .u8 0, .int .u8 0, .int .u8 0, .int .u8 0, .int .u8 0, .int .u8 0, .int .u8 0, .int .u8 0, .int .u8 0, .int .u8 0, .int .u8 0, .int .u8 0, .int .u8 0, .int .u8 0, .int .u8 0, .int .u8 0, .int .u8 0, .int .u8 0, .int .u8 0, .int .u8 0, .int .u8 0, .int .u8 0, .int .u8 0, .int .u8 0, .int .u8 0, .int .u8 0, .int .u8 0] })]
set_option maxRecDepth 100000 in
theorem tabOK : TabOK Tryd.prog tab := by
  refine ⟨?_, ?_, ?_, ?_, ?_, ?_, ?_, ?_, ?_, ?_, ?_, ?_, ?_, ?_, ?_, ?_, ?_, ?_, ?_, ?_, ?_, ?_, ?_, ?_, ?_, ?_, ?_, ?_, ?_, ?_, ?_, ?_, ?_, ?_, ?_, ?_, ?_, ?_, ?_, ?_, ?_, ?_, ?_, ?_, ?_, ?_, ?_, ?_, ?_, ?_, ?_, ?_, ?_, ?_, ?_, ?_, ?_, ?_, ?_, ?_, ?_, ?_, ?_, ?_, ?_, ?_, ?_, ?_, ?_, ?_, ?_, ?_, ?_, ?_, ?_, ?_, ?_, ?_, ?_, ?_, ?_, ?_, trivial⟩
  · exact TyOK.of (d := (.func #[] #[] false)) (by kernel_rfl) (by kernel_rfl) rfl ⟨_, _, _, rfl⟩ (fun h => by cases h)
  · exact TyOK.of (d := (.int .i64)) (by kernel_rfl) (by kernel_rfl) rfl rfl (fun h => by cases h)
  · exact TyOK.of (d := (.int .i64)) (by kernel_rfl) (by kernel_rfl) rfl rfl (fun h => by cases h)
  · exact TyOK.of (d := .bool) (by kernel_rfl) (by kernel_rfl) rfl rfl (fun h => by cases h)
  · exact TyOK.of (d := (.int .u8)) (by kernel_rfl) (by kernel_rfl) rfl rfl (fun h => by cases h)
  · exact TyOK.of (d := .string) (by kernel_rfl) (by kernel_rfl) rfl rfl (fun h => by cases h)
  · exact TyOK.of (d := (.interface #[])) (by kernel_rfl) (by kernel_rfl) rfl ⟨_, rfl⟩ (fun h => by cases h)
  · exact TyOK.of (d := (.int .i32)) (by kernel_rfl) (by kernel_rfl) rfl rfl (fun h => by cases h)
  · exact TyOK.of (d := (.func #[] #[4] false)) (by kernel_rfl) (by kernel_rfl) rfl ⟨_, _, _, rfl⟩ (fun h => by cases h)
  · exact TyOK.of (d := (.func #[24, 24] #[4] false)) (by kernel_rfl) (by kernel_rfl) rfl ⟨_, _, _, rfl⟩ (fun h => by cases h)
  · exact TyOK.of (d := (.slice 9)) (by kernel_rfl) (by kernel_rfl) rfl rfl (fun h => by cases h)
  · exact TyOK.of (d := (.func #[9] #[24] false)) (by kernel_rfl) (by kernel_rfl) rfl ⟨_, _, _, rfl⟩ (fun h => by cases h)
  · exact TyOK.of (d := (.func #[9] #[4] false)) (by kernel_rfl) (by kernel_rfl) rfl ⟨_, _, _, rfl⟩ (fun h => by cases h)
  · exact TyOK.of (d := (.slice 5)) (by kernel_rfl) (by kernel_rfl) rfl rfl (fun h => by cases h)
  · exact TyOK.of (d := (.func #[24, 27] #[4] false)) (by kernel_rfl) (by kernel_rfl) rfl ⟨_, _, _, rfl⟩ (fun h => by cases h)
  · exact TyOK.of (d := (.func #[9] #[24, 4] false)) (by kernel_rfl) (by kernel_rfl) rfl ⟨_, _, _, rfl⟩ (fun h => by cases h)
  · exact TyOK.of (d := (.func #[3] #[9] false)) (by kernel_rfl) (by kernel_rfl) rfl ⟨_, _, _, rfl⟩ (fun h => by cases h)
  · exact TyOK.of (d := (.func #[3, 3] #[4] false)) (by kernel_rfl) (by kernel_rfl) rfl ⟨_, _, _, rfl⟩ (fun h => by cases h)
  · exact TyOK.of (d := (.func #[24] #[9] false)) (by kernel_rfl) (by kernel_rfl) rfl ⟨_, _, _, rfl⟩ (fun h => by cases h)
  · exact TyOK.of (d := (.func #[9, 24] #[4] false)) (by kernel_rfl) (by kernel_rfl) rfl ⟨_, _, _, rfl⟩ (fun h => by cases h)
  · exact TyOK.of (d := (.func #[24, 9] #[4] false)) (by kernel_rfl) (by kernel_rfl) rfl ⟨_, _, _, rfl⟩ (fun h => by cases h)
  · exact TyOK.of (d := (.int .u64)) (by kernel_rfl) (by kernel_rfl) rfl rfl (fun h => by cases h)
  · exact TyOK.of (d := (.func #[9, 3, 3] #[3, 4] false)) (by kernel_rfl) (by kernel_rfl) rfl ⟨_, _, _, rfl⟩ (fun h => by cases h)
  · exact TyOK.of (d := (.func #[9] #[36, 4] false)) (by kernel_rfl) (by kernel_rfl) rfl ⟨_, _, _, rfl⟩ (fun h => by cases h)
  · exact TyOK.of (d := (.func #[36] #[9] false)) (by kernel_rfl) (by kernel_rfl) rfl ⟨_, _, _, rfl⟩ (fun h => by cases h)
  · exact TyOK.of (d := (.func #[9, 3, 3, 3, 36] #[4] false)) (by kernel_rfl) (by kernel_rfl) rfl ⟨_, _, _, rfl⟩ (fun h => by cases h)
  · exact TyOK.of (d := (.func #[3, 3, 3, 36] #[4] false)) (by kernel_rfl) (by kernel_rfl) rfl ⟨_, _, _, rfl⟩ (fun h => by cases h)
  · exact TyOK.of (d := (.func #[9, 9] #[24] false)) (by kernel_rfl) (by kernel_rfl) rfl ⟨_, _, _, rfl⟩ (fun h => by cases h)
  · exact TyOK.of (d := (.func #[9, 5] #[24] false)) (by kernel_rfl) (by kernel_rfl) rfl ⟨_, _, _, rfl⟩ (fun h => by cases h)
  · exact TyOK.of (d := (.func #[9, 47] #[24] false)) (by kernel_rfl) (by kernel_rfl) rfl ⟨_, _, _, rfl⟩ (fun h => by cases h)
  · exact TyOK.of (d := (.func #[21] #[4] false)) (by kernel_rfl) (by kernel_rfl) rfl ⟨_, _, _, rfl⟩ (fun h => by cases h)
  · exact TyOK.of (d := (.func #[5] #[4] false)) (by kernel_rfl) (by kernel_rfl) rfl ⟨_, _, _, rfl⟩ (fun h => by cases h)
  · exact TyOK.of (d := (.func #[9, 5] #[3] false)) (by kernel_rfl) (by kernel_rfl) rfl ⟨_, _, _, rfl⟩ (fun h => by cases h)
  · exact TyOK.of (d := (.func #[24] #[4] false)) (by kernel_rfl) (by kernel_rfl) rfl ⟨_, _, _, rfl⟩ (fun h => by cases h)
  · exact TyOK.of (d := (.func #[24, 9] #[9] false)) (by kernel_rfl) (by kernel_rfl) rfl ⟨_, _, _, rfl⟩ (fun h => by cases h)
  · exact TyOK.of (d := (.int .u64)) (by kernel_rfl) (by kernel_rfl) rfl rfl (fun h => by cases h)
  · exact TyOK.of (d := (.func #[36, 3] #[9] false)) (by kernel_rfl) (by kernel_rfl) rfl ⟨_, _, _, rfl⟩ (fun h => by cases h)
  · exact TyOK.of (d := (.func #[9, 3] #[9] false)) (by kernel_rfl) (by kernel_rfl) rfl ⟨_, _, _, rfl⟩ (fun h => by cases h)
  · exact TyOK.of (d := (.func #[9, 9, 3, 3] #[24] false)) (by kernel_rfl) (by kernel_rfl) rfl ⟨_, _, _, rfl⟩ (fun h => by cases h)
  · exact TyOK.of (d := (.slice 58)) (by kernel_rfl) (by kernel_rfl) rfl rfl (fun h => by cases h)
  · exact TyOK.of (d := (.struct (Tryd.prog.fieldsOf 57))) (by kernel_rfl) (by kernel_rfl) rfl ⟨_, rfl, by kernel_rfl⟩ (fun _ => ⟨by kernel_rfl, by kernel_rfl, by kernel_rfl, by kernel_rfl⟩)
  · exact TyOK.of (d := (.struct (Tryd.prog.fieldsOf 58))) (by kernel_rfl) (by kernel_rfl) rfl ⟨_, rfl, by kernel_rfl⟩ (fun _ => ⟨by kernel_rfl, by kernel_rfl, by kernel_rfl, by kernel_rfl⟩)
  · exact TyOK.of (d := (.pointer 61)) (by kernel_rfl) (by kernel_rfl) rfl rfl (fun h => by cases h)
  · exact TyOK.of (d := (.struct (Tryd.prog.fieldsOf 60))) (by kernel_rfl) (by kernel_rfl) rfl ⟨_, rfl, by kernel_rfl⟩ (fun h => by cases h)
  · exact TyOK.of (d := (.struct (Tryd.prog.fieldsOf 61))) (by kernel_rfl) (by kernel_rfl) rfl ⟨_, rfl, by kernel_rfl⟩ (fun h => by cases h)
  · exact TyOK.of (d := (.func #[3] #[] false)) (by kernel_rfl) (by kernel_rfl) rfl ⟨_, _, _, rfl⟩ (fun h => by cases h)
  · exact TyOK.of (d := (.interface #[("Error", 67)])) (by kernel_rfl) (by kernel_rfl) rfl ⟨_, rfl⟩ (fun h => by cases h)
  · exact TyOK.of (d := (.interface #[("Error", 67)])) (by kernel_rfl) (by kernel_rfl) rfl ⟨_, rfl⟩ (fun h => by cases h)
  · exact TyOK.of (d := (.func #[9] #[3, 64] false)) (by kernel_rfl) (by kernel_rfl) rfl ⟨_, _, _, rfl⟩ (fun h => by cases h)
  · exact TyOK.of (d := (.func #[] #[9] false)) (by kernel_rfl) (by kernel_rfl) rfl ⟨_, _, _, rfl⟩ (fun h => by cases h)
  · exact TyOK.of (d := (.func #[52, 52] #[52, 52] false)) (by kernel_rfl) (by kernel_rfl) rfl ⟨_, _, _, rfl⟩ (fun h => by cases h)
  · exact TyOK.of (d := (.func #[9, 9] #[4] false)) (by kernel_rfl) (by kernel_rfl) rfl ⟨_, _, _, rfl⟩ (fun h => by cases h)
  · exact TyOK.of (d := (.func #[] #[3] false)) (by kernel_rfl) (by kernel_rfl) rfl ⟨_, _, _, rfl⟩ (fun h => by cases h)
  · exact TyOK.of (d := (.func #[9, 3] #[24] false)) (by kernel_rfl) (by kernel_rfl) rfl ⟨_, _, _, rfl⟩ (fun h => by cases h)
  · exact TyOK.of (d := (.func #[9, 9] #[3] false)) (by kernel_rfl) (by kernel_rfl) rfl ⟨_, _, _, rfl⟩ (fun h => by cases h)
  · exact TyOK.of (d := (.func #[24, 9] #[3] false)) (by kernel_rfl) (by kernel_rfl) rfl ⟨_, _, _, rfl⟩ (fun h => by cases h)
  · exact TyOK.of (d := (.func #[2, 3] #[9] false)) (by kernel_rfl) (by kernel_rfl) rfl ⟨_, _, _, rfl⟩ (fun h => by cases h)
  · exact TyOK.of (d := (.pointer 5)) (by kernel_rfl) (by kernel_rfl) rfl rfl (fun h => by cases h)
  · exact TyOK.of (d := (.array 24 5)) (by kernel_rfl) (by kernel_rfl) rfl rfl (fun h => by cases h)
  · exact TyOK.of (d := (.func #[36] #[3] false)) (by kernel_rfl) (by kernel_rfl) rfl ⟨_, _, _, rfl⟩ (fun h => by cases h)
  · exact TyOK.of (d := (.func #[27, 36] #[] false)) (by kernel_rfl) (by kernel_rfl) rfl ⟨_, _, _, rfl⟩ (fun h => by cases h)
  · exact TyOK.of (d := (.func #[27, 36, 3, 4, 4] #[27, 9] false)) (by kernel_rfl) (by kernel_rfl) rfl ⟨_, _, _, rfl⟩ (fun h => by cases h)
  · exact TyOK.of (d := (.int .u32)) (by kernel_rfl) (by kernel_rfl) rfl rfl (fun h => by cases h)
  · exact TyOK.of (d := (.func #[82, 82] #[82, 82] false)) (by kernel_rfl) (by kernel_rfl) rfl ⟨_, _, _, rfl⟩ (fun h => by cases h)
  · exact TyOK.of (d := (.func #[36, 36] #[36, 36] false)) (by kernel_rfl) (by kernel_rfl) rfl ⟨_, _, _, rfl⟩ (fun h => by cases h)
  · exact TyOK.of (d := (.func #[9] #[3] false)) (by kernel_rfl) (by kernel_rfl) rfl ⟨_, _, _, rfl⟩ (fun h => by cases h)
  · exact TyOK.of (d := (.func #[9] #[21, 3] false)) (by kernel_rfl) (by kernel_rfl) rfl ⟨_, _, _, rfl⟩ (fun h => by cases h)
  · exact TyOK.of (d := (.func #[3] #[27] false)) (by kernel_rfl) (by kernel_rfl) rfl ⟨_, _, _, rfl⟩ (fun h => by cases h)
  · exact TyOK.of (d := (.func #[3] #[3] false)) (by kernel_rfl) (by kernel_rfl) rfl ⟨_, _, _, rfl⟩ (fun h => by cases h)
  · exact TyOK.of (d := (.func #[4] #[3] false)) (by kernel_rfl) (by kernel_rfl) rfl ⟨_, _, _, rfl⟩ (fun h => by cases h)
  · exact TyOK.of (d := (.array 20 36)) (by kernel_rfl) (by kernel_rfl) rfl rfl (fun h => by cases h)
  · exact TyOK.of (d := (.array 65 5)) (by kernel_rfl) (by kernel_rfl) rfl rfl (fun h => by cases h)
  · exact TyOK.of (d := (.func #[3] #[4] false)) (by kernel_rfl) (by kernel_rfl) rfl ⟨_, _, _, rfl⟩ (fun h => by cases h)
  · exact TyOK.of (d := (.func #[52] #[3] false)) (by kernel_rfl) (by kernel_rfl) rfl ⟨_, _, _, rfl⟩ (fun h => by cases h)
  · exact TyOK.of (d := (.func #[82] #[3] false)) (by kernel_rfl) (by kernel_rfl) rfl ⟨_, _, _, rfl⟩ (fun h => by cases h)
  · exact TyOK.of (d := (.array 256 5)) (by kernel_rfl) (by kernel_rfl) rfl rfl (fun h => by cases h)
  · exact TyOK.of (d := (.struct (Tryd.prog.fieldsOf 101))) (by kernel_rfl) (by kernel_rfl) rfl ⟨_, rfl, by kernel_rfl⟩ (fun _ => ⟨by kernel_rfl, by kernel_rfl, by kernel_rfl, by kernel_rfl⟩)
  · exact TyOK.of (d := (.struct (Tryd.prog.fieldsOf 102))) (by kernel_rfl) (by kernel_rfl) rfl ⟨_, rfl, by kernel_rfl⟩ (fun _ => ⟨by kernel_rfl, by kernel_rfl, by kernel_rfl, by kernel_rfl⟩)
  · exact TyOK.of (d := (.array 16 102)) (by kernel_rfl) (by kernel_rfl) rfl rfl (fun h => by cases h)
  · exact TyOK.of (d := (.func #[9] #[82, 82] false)) (by kernel_rfl) (by kernel_rfl) rfl ⟨_, _, _, rfl⟩ (fun h => by cases h)
  · exact TyOK.of (d := (.array 32 5)) (by kernel_rfl) (by kernel_rfl) rfl rfl (fun h => by cases h)
  · exact TyOK.of (d := (.array 64 5)) (by kernel_rfl) (by kernel_rfl) rfl rfl (fun h => by cases h)
end Go.Proofs.YtialapjchamkfaaDoor
