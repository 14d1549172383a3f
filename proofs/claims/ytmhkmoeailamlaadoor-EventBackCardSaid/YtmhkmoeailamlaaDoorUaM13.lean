/- The library of this claim and its walks, part 13, joined out of smaller texts. No statement stands in it. -/
import Derived.Test.YtmhkmoeailamlaaDoorUaM12
import Derived.Test.YtmhkmoeailamlaaDoorProg
/- The types of this program, as the evaluator needs them; what its package variables hold. -/
namespace Go.Proofs.YtmhkmoeailamlaaDoor
open Go Go.Proofs Go.Ua
set_option linter.unusedVariables false
def pow10Cs : List Value := Lib.pow10Tab.map fun z => Value.int .u64 z
instance : Globs Tryd.prog := ⟨fun b p => (b = 3 ∧ p = fun cs => cs = pow10Cs) ∨ (b = 0 ∧ p = fun cs => ∃ m, cs[0]? = some (Value.int .i64 m)) ∨ (b = 5 ∧ p = fun cs => cs[15]? = some (Value.int .u8 4))⟩
theorem G_pow10 : Globs.G Tryd.prog 3 (fun cs => cs = pow10Cs) := (.inl ⟨rfl, rfl⟩)
theorem G_maxlen : Globs.G Tryd.prog 0 (fun cs => ∃ m, cs[0]? = some (Value.int .i64 m)) := (.inr (.inl ⟨rfl, rfl⟩))
theorem G_db64 : Globs.G Tryd.prog 5 (fun cs => cs[15]? = some (Value.int .u8 4)) := (.inr (.inr ⟨rfl, rfl⟩))
/-- The types that the functions of this seat name. -/
def tab : Tab := [
  (1, { k := .func, size := 1, bytes := 8, zero := [.fn0] }),
  (2, { k := .int .i64, size := 1, bytes := 8, zero := [.int .i64 0] }),
  (3, { k := .int .i64, size := 1, bytes := 8, zero := [.int .i64 0] }),
  (4, { k := .bool, size := 1, bytes := 1, zero := [.bool false] }),
  (5, { k := .int .u8, size := 1, bytes := 1, zero := [.int .u8 0] }),
  (9, { k := .string, size := 1, bytes := 16, zero := [.str []] }),
  (20, { k := .iface, size := 1, bytes := 16, zero := [.if0] }),
  (21, { k := .int .i32, size := 1, bytes := 4, zero := [.int .i32 0] }),
  (22, { k := .func, size := 1, bytes := 8, zero := [.fn0] }),
  (23, { k := .slice 9, size := 1, bytes := 24, zero := [.sl0] }),
  (24, { k := .struct [(0, 9), (1, 23), (2, 9), (3, 9), (4, 9), (5, 3)], size := 6, bytes := 96, zero := [.str [], .sl0, .str [], .str [], .str [], .int .i64 0] }),
  (25, { k := .struct [(0, 9), (1, 23), (2, 9), (3, 9), (4, 9), (5, 3)], size := 6, bytes := 96, zero := [.str [], .sl0, .str [], .str [], .str [], .int .i64 0] }),
  (26, { k := .struct [(0, 3), (1, 3), (2, 3), (3, 25), (9, 9)], size := 10, bytes := 136, zero := [.int .i64 0, .int .i64 0, .int .i64 0, .str [], .sl0, .str [], .str [], .str [], .int .i64 0, .str []] }),
  (27, { k := .struct [(0, 3), (1, 3), (2, 3), (3, 25), (9, 9)], size := 10, bytes := 136, zero := [.int .i64 0, .int .i64 0, .int .i64 0, .str [], .sl0, .str [], .str [], .str [], .int .i64 0, .str []] }),
  (28, { k := .int .i64, size := 1, bytes := 8, zero := [.int .i64 0] }),
  (30, { k := .func, size := 1, bytes := 8, zero := [.fn0] }),
  (32, { k := .func, size := 1, bytes := 8, zero := [.fn0] }),
  (33, { k := .func, size := 1, bytes := 8, zero := [.fn0] }),
  (34, { k := .func, size := 1, bytes := 8, zero := [.fn0] }),
  (35, { k := .func, size := 1, bytes := 8, zero := [.fn0] }),
  (37, { k := .func, size := 1, bytes := 8, zero := [.fn0] }),
  (39, { k := .func, size := 1, bytes := 8, zero := [.fn0] }),
  (40, { k := .func, size := 1, bytes := 8, zero := [.fn0] }),
  (41, { k := .slice 5, size := 1, bytes := 24, zero := [.sl0] }),
  (42, { k := .func, size := 1, bytes := 8, zero := [.fn0] }),
  (43, { k := .func, size := 1, bytes := 8, zero := [.fn0] }),
  (44, { k := .pointer 46, size := 1, bytes := 8, zero := [.ptr0] }),
  (45, { k := .struct [(0, 23), (1, 28)], size := 2, bytes := 32, zero := [.sl0, .int .i64 0] }),
  (46, { k := .struct [(0, 23), (1, 28)], size := 2, bytes := 32, zero := [.sl0, .int .i64 0] }),
  (47, { k := .func, size := 1, bytes := 8, zero := [.fn0] }),
  (48, { k := .func, size := 1, bytes := 8, zero := [.fn0] }),
  (49, { k := .func, size := 1, bytes := 8, zero := [.fn0] }),
  (50, { k := .func, size := 1, bytes := 8, zero := [.fn0] }),
  (51, { k := .func, size := 1, bytes := 8, zero := [.fn0] }),
  (52, { k := .func, size := 1, bytes := 8, zero := [.fn0] }),
  (54, { k := .func, size := 1, bytes := 8, zero := [.fn0] }),
  (55, { k := .func, size := 1, bytes := 8, zero := [.fn0] }),
  (56, { k := .func, size := 1, bytes := 8, zero := [.fn0] }),
  (57, { k := .func, size := 1, bytes := 8, zero := [.fn0] }),
  (58, { k := .func, size := 1, bytes := 8, zero := [.fn0] }),
  (59, { k := .func, size := 1, bytes := 8, zero := [.fn0] }),
  (60, { k := .func, size := 1, bytes := 8, zero := [.fn0] }),
  (61, { k := .func, size := 1, bytes := 8, zero := [.fn0] }),
  (62, { k := .func, size := 1, bytes := 8, zero := [.fn0] }),
  (63, { k := .func, size := 1, bytes := 8, zero := [.fn0] }),
  (64, { k := .func, size := 1, bytes := 8, zero := [.fn0] }),
  (66, { k := .func, size := 1, bytes := 8, zero := [.fn0] }),
  (67, { k := .func, size := 1, bytes := 8, zero := [.fn0] }),
  (68, { k := .func, size := 1, bytes := 8, zero := [.fn0] }),
  (70, { k := .func, size := 1, bytes := 8, zero := [.fn0] }),
  (71, { k := .func, size := 1, bytes := 8, zero := [.fn0] }),
  (73, { k := .func, size := 1, bytes := 8, zero := [.fn0] }),
  (74, { k := .func, size := 1, bytes := 8, zero := [.fn0] }),
  (75, { k := .func, size := 1, bytes := 8, zero := [.fn0] }),
  (76, { k := .func, size := 1, bytes := 8, zero := [.fn0] }),
  (77, { k := .slice 79, size := 1, bytes := 24, zero := [.sl0] }),
  (78, { k := .struct [(0, 3), (1, 3)], size := 2, bytes := 16, zero := [.int .i64 0, .int .i64 0], eq := true }),
  (79, { k := .struct [(0, 3), (1, 3)], size := 2, bytes := 16, zero := [.int .i64 0, .int .i64 0], eq := true }),
  (80, { k := .func, size := 1, bytes := 8, zero := [.fn0] }),
  (81, { k := .func, size := 1, bytes := 8, zero := [.fn0] }),
  (82, { k := .func, size := 1, bytes := 8, zero := [.fn0] }),
  (83, { k := .pointer 85, size := 1, bytes := 8, zero := [.ptr0] }),
  (84, { k := .struct [(0, 83), (1, 41)], size := 2, bytes := 32, zero := [.ptr0, .sl0] }),
  (85, { k := .struct [(0, 83), (1, 41)], size := 2, bytes := 32, zero := [.ptr0, .sl0] }),
  (86, { k := .func, size := 1, bytes := 8, zero := [.fn0] }),
  (87, { k := .iface, size := 1, bytes := 16, zero := [.if0] }),
  (88, { k := .iface, size := 1, bytes := 16, zero := [.if0] }),
  (90, { k := .func, size := 1, bytes := 8, zero := [.fn0] }),
  (91, { k := .func, size := 1, bytes := 8, zero := [.fn0] }),
  (92, { k := .func, size := 1, bytes := 8, zero := [.fn0] }),
  (94, { k := .func, size := 1, bytes := 8, zero := [.fn0] }),
  (95, { k := .func, size := 1, bytes := 8, zero := [.fn0] }),
  (96, { k := .func, size := 1, bytes := 8, zero := [.fn0] }),
  (97, { k := .pointer 5, size := 1, bytes := 8, zero := [.ptr0] }),
  (98, { k := .func, size := 1, bytes := 8, zero := [.fn0] }),
  (99, { k := .int .u64, size := 1, bytes := 8, zero := [.int .u64 0] }),
  (100, { k := .func, size := 1, bytes := 8, zero := [.fn0] }),
  (101, { k := .func, size := 1, bytes := 8, zero := [.fn0] }),
  (102, { k := .func, size := 1, bytes := 8, zero := [.fn0] }),
  (105, { k := .func, size := 1, bytes := 8, zero := [.fn0] }),
  (106, { k := .func, size := 1, bytes := 8, zero := [.fn0] }),
  (107, { k := .int .u32, size := 1, bytes := 4, zero := [.int .u32 0] }),
  (109, { k := .func, size := 1, bytes := 8, zero := [.fn0] }),
  (110, { k := .array 256 5, size := 256, bytes := 256, zero := [.int .u8 0, .int .u8 0, .int .u8 0, .int .u8 0, .int .u8 0, .int .u8 0, .int .u8 0, .int .u8 0, .int .u8 0, .int .u8 0, .int .u8 0, .int .u8 0, .int .u8 0, .int .u8 0, .int .u8 0, .int .u8 0, .int .u8 0, .int .u8 0, .int .u8 0, .int .u8 0, .int .u8 0, .int .u8 0, .int .u8 0, .int .u8 0, .int .u8 0, .int .u8 0, .int .u8 0, .int .u8 0, .int .u8 0, .int .u8 0, .int .u8 0, .int .u8 0, .int .u8 0, .int .u8 0, .int .u8 0, .int .u8 0, .int .u8 0, .int .u8 0, .int .u8 0, .int .u8 0, .int .u8 0, .int .u8 0, .int .u8 0, .int .u8 0, .int .u8 0, .int .u8 0, .int .u8 0, .int .u8 0, .int .u8 0, .int .u8 0, .int .u8 0, .int .u8 0, .int .u8 0, .int .u8 0, .int .u8 0, .int .u8 0, .int .u8 0, .int .u8 0, .int .u8 0, .int .u8 0, .int .u8 0, .int .u8 0, .int .u8 0, .int .u8 0, .int .u8 0, .int .u8 0, .int .u8 0, .int .u8 0, .int .u8 0, .int .u8 0, .int .u8 0, .int .u8 0, .int .u8 0, .int .u8 0, .int .u8 0, .int .u8 0, .int .u8 0, .int .u8 0, .int .u8 0, .int .u8 0, .int .u8 0, .int .u8 0, .int .u8 0, .int .u8 0, .int .u8 0, .int .u8 0, .int .u8 0, .int .u8 0, .int .u8 0, .int .u8 0, .int .u8 0, .int .u8 0, .int .u8 0, .int .u8 0, .int .u8 0, .int .u8 0, .int .u8 0, .int .u8 0, .int .u8 0, .int .u8 0, .int .u8 0, .int .u8 0, .int .u8 0, .int .u8 0, .int .u8 0, .int .u8 0, .int .u8 0, .int .u8 0, .int .u8 0, .int .u8 0, .int .u8 0, .int .u8 0, .int .u8 0, .int .u8 0, .int .u8 0, .int .u8 0, .int .u8 0, .int .u8 0, .int .u8 0, .int .u8 0, .int .u8 0, .int .u8 0, .int .u8 0, .int .u8 0, .int .u8 0, .int .u8 0, .int .u8 0, .int .u8 0, .int .u8 0, .int .u8 0, .int .u8 0, .int .u8 0, .int .u8 0, .int .u8 0, .int .u8 0, .int .u8 0, .int .u8 0, .int .u8 0, .int .u8 0, .int .u8 0, .int .u8 0, .int .u8 0, .int .u8 0, .int .u8 0, .int .u8 0, .int .u8 0, .int .u8 0, .int .u8 0, .int .u8 0, .int .u8 0, .int .u8 0, .int .u8 0, .int .u8 0, .int .u8 0, .int .u8 0, .int .u8 0, .int .u8 0, .int .u8 0, .int .u8 0, .int .u8 0, .int .u8 0, .int .u8 0, .int .u8 0, .int .u8 0, .int .u8 0, .int .u8 0, .int .u8 0, .int .u8 0, .int .u8 0, .int .u8 0, .int .u8 0, .int .u8 0, .int .u8 0, .int .u8 0, .int .u8 0, .int .u8 0, .int .u8 0, .int .u8 0, .int .u8 0, .int .u8 0, .int .u8 0, .int .u8 0, .int .u8 0, .int .u8 0, .int .u8 0, .int .u8 0, .int .u8 0, .int .u8 0, .int .u8 0, .int .u8 0, .int .u8 0, .int .u8 0, .int .u8 0, .int .u8 0, .int .u8 0, .int .u8 0, .int .u8 0, .int .u8 0, .int .u8 0, .int .u8 0, .int .u8 0, .int .u8 0, .int .u8 0, .int .u8 0, .int .u8 0, .int .u8 0, .int .u8 0, .int .u8 0, .int .u8 0, .int .u8 0, .int .u8 0, .int .u8 0, .int .u8 0, .int .u8 0, .int .u8 0, .int .u8 0, .int .u8 0, .int .u8 0, .int .u8 0, .int .u8 0, .int .u8 0, .int .u8 0, .int .u8 0, .int .u8 0, .int .u8 0, .int .u8 0, .int .u8 0, .int .u8 0, .int .u8 0, .int .u8 0, .int .u8 0, .int .u8 0, .int .u8 0, .int .u8 0, .int .u8 0, .int .u8 0, .int .u8 0, .int .u8 0, .int .u8 0, .int .u8 0, .int .u8 0, .int .u8 0, .int .u8 0, .int .u8 0, .int .u8 0, .int .u8 0, .int .u8 0, .int .u8 0, .int .u8 0, .int .u8 0, .int .u8 0, .int .u8 0, .int .u8 0, .int .u8 0, .int .u8 0, .int .u8 0] }),
  (111, { k := .struct [(0, 5), (1, 5)], size := 2, bytes := 2, zero := [.int .u8 0, .int .u8 0], eq := true }),
  (112, { k := .struct [(0, 5), (1, 5)], size := 2, bytes := 2, zero := [.int .u8 0, .int .u8 0], eq := true }),
  (113, { k := .array 16 112, size := 32, bytes := 32, zero := [.int .u8 0, .int .u8 0, .int .u8 0, .int .u8 0, .int .u8 0, .int .u8 0, .int .u8 0, .int .u8 0, .int .u8 0, .int .u8 0, .int .u8 0, .int .u8 0, .int .u8 0, .int .u8 0, .int .u8 0, .int .u8 0, .int .u8 0, .int .u8 0, .int .u8 0, .int .u8 0, .int .u8 0, .int .u8 0, .int .u8 0, .int .u8 0, .int .u8 0, .int .u8 0, .int .u8 0, .int .u8 0, .int .u8 0, .int .u8 0, .int .u8 0, .int .u8 0] }),
  (114, { k := .array 24 5, size := 24, bytes := 24, zero := [.int .u8 0, .int .u8 0, .int .u8 0, .int .u8 0, .int .u8 0, .int .u8 0, .int .u8 0, .int .u8 0, .int .u8 0, .int .u8 0, .int .u8 0, .int .u8 0, .int .u8 0, .int .u8 0, .int .u8 0, .int .u8 0, .int .u8 0, .int .u8 0, .int .u8 0, .int .u8 0, .int .u8 0, .int .u8 0, .int .u8 0, .int .u8 0] }),
  (115, { k := .int .u64, size := 1, bytes := 8, zero := [.int .u64 0] }),
  (116, { k := .func, size := 1, bytes := 8, zero := [.fn0] }),
  (117, { k := .func, size := 1, bytes := 8, zero := [.fn0] }),
  (119, { k := .func, size := 1, bytes := 8, zero := [.fn0] }),
  (120, { k := .func, size := 1, bytes := 8, zero := [.fn0] }),
  (121, { k := .array 20 115, size := 20, bytes := 160, zero := [.int .u64 0, .int .u64 0, .int .u64 0, .int .u64 0, .int .u64 0, .int .u64 0, .int .u64 0, .int .u64 0, .int .u64 0, .int .u64 0, .int .u64 0, .int .u64 0, .int .u64 0, .int .u64 0, .int .u64 0, .int .u64 0, .int .u64 0, .int .u64 0, .int .u64 0, .int .u64 0] }),
  (122, { k := .array 65 5, size := 65, bytes := 65, zero := [.int .u8 0, .int .u8 0, .int .u8 0, .int .u8 0, .int .u8 0, .int .u8 0, .int .u8 0, .int .u8 0, .int .u8 0, .int .u8 0, .int .u8 0, .int .u8 0, .int .u8 0, .int .u8 0, .int .u8 0, .int .u8 0, .int .u8 0, .int .u8 0, .int .u8 0, .int .u8 0, .int .u8 0, .int .u8 0, .int .u8 0, .int .u8 0, .int .u8 0, .int .u8 0, .int .u8 0, .int .u8 0, .int .u8 0, .int .u8 0, .int .u8 0, .int .u8 0, .int .u8 0, .int .u8 0, .int .u8 0, .int .u8 0, .int .u8 0, .int .u8 0, .int .u8 0, .int .u8 0, .int .u8 0, .int .u8 0, .int .u8 0, .int .u8 0, .int .u8 0, .int .u8 0, .int .u8 0, .int .u8 0, .int .u8 0, .int .u8 0, .int .u8 0, .int .u8 0, .int .u8 0, .int .u8 0, .int .u8 0, .int .u8 0, .int .u8 0, .int .u8 0, .int .u8 0, .int .u8 0, .int .u8 0, .int .u8 0, .int .u8 0, .int .u8 0, .int .u8 0] }),
  (123, { k := .func, size := 1, bytes := 8, zero := [.fn0] }),
  (124, { k := .func, size := 1, bytes := 8, zero := [.fn0] }),
  (125, { k := .func, size := 1, bytes := 8, zero := [.fn0] }),
  (126, { k := .array 32 5, size := 32, bytes := 32, zero := [.int .u8 0, .int .u8 0, .int .u8 0, .int .u8 0, .int .u8 0, .int .u8 0, .int .u8 0, .int .u8 0, .int .u8 0, .int .u8 0, .int .u8 0, .int .u8 0, .int .u8 0, .int .u8 0, .int .u8 0, .int .u8 0, .int .u8 0, .int .u8 0, .int .u8 0, .int .u8 0, .int .u8 0, .int .u8 0, .int .u8 0, .int .u8 0, .int .u8 0, .int .u8 0, .int .u8 0, .int .u8 0, .int .u8 0, .int .u8 0, .int .u8 0, .int .u8 0] }),
  (127, { k := .array 64 5, size := 64, bytes := 64, zero := [.int .u8 0, .int .u8 0, .int .u8 0, .int .u8 0, .int .u8 0, .int .u8 0, .int .u8 0, .int .u8 0, .int .u8 0, .int .u8 0, .int .u8 0, .int .u8 0, .int .u8 0, .int .u8 0, .int .u8 0, .int .u8 0, .int .u8 0, .int .u8 0, .int .u8 0, .int .u8 0, .int .u8 0, .int .u8 0, .int .u8 0, .int .u8 0, .int .u8 0, .int .u8 0, .int .u8 0, .int .u8 0, .int .u8 0, .int .u8 0, .int .u8 0, .int .u8 0, .int .u8 0, .int .u8 0, .int .u8 0, .int .u8 0, .int .u8 0, .int .u8 0, .int .u8 0, .int .u8 0, .int .u8 0, .int .u8 0, .int .u8 0, .int .u8 0, .int .u8 0, .int .u8 0, .int .u8 0, .int .u8 0, .int .u8 0, .int .u8 0, .int .u8 0, .int .u8 0, .int .u8 0, .int .u8 0, .int .u8 0, .int .u8 0, .int .u8 0, .int .u8 0, .int .u8 0, .int .u8 0, .int .u8 0, .int .u8 0, .int .u8 0, .int .u8 0] }),
  (133, { k := .func, size := 1, bytes := 8, zero := [.fn0] })]
set_option maxRecDepth 100000 in
theorem tabOK : TabOK Tryd.prog tab := by
  refine ⟨?_, ?_, ?_, ?_, ?_, ?_, ?_, ?_, ?_, ?_, ?_, ?_, ?_, ?_, ?_, ?_, ?_, ?_, ?_, ?_, ?_, ?_, ?_, ?_, ?_, ?_, ?_, ?_, ?_, ?_, ?_, ?_, ?_, ?_, ?_, ?_, ?_, ?_, ?_, ?_, ?_, ?_, ?_, ?_, ?_, ?_, ?_, ?_, ?_, ?_, ?_, ?_, ?_, ?_, ?_, ?_, ?_, ?_, ?_, ?_, ?_, ?_, ?_, ?_, ?_, ?_, ?_, ?_, ?_, ?_, ?_, ?_, ?_, ?_, ?_, ?_, ?_, ?_, ?_, ?_, ?_, ?_, ?_, ?_, ?_, ?_, ?_, ?_, ?_, ?_, ?_, ?_, ?_, ?_, ?_, ?_, ?_, ?_, ?_, ?_, ?_, trivial⟩
  · exact TyOK.of (d := (.func #[] #[] false)) (by kernel_rfl) (by kernel_rfl) rfl ⟨_, _, _, rfl⟩ (fun h => by cases h)
  · exact TyOK.of (d := (.int .i64)) (by kernel_rfl) (by kernel_rfl) rfl rfl (fun h => by cases h)
  · exact TyOK.of (d := (.int .i64)) (by kernel_rfl) (by kernel_rfl) rfl rfl (fun h => by cases h)
  · exact TyOK.of (d := .bool) (by kernel_rfl) (by kernel_rfl) rfl rfl (fun h => by cases h)
  · exact TyOK.of (d := (.int .u8)) (by kernel_rfl) (by kernel_rfl) rfl rfl (fun h => by cases h)
  · exact TyOK.of (d := .string) (by kernel_rfl) (by kernel_rfl) rfl rfl (fun h => by cases h)
  · exact TyOK.of (d := (.interface #[])) (by kernel_rfl) (by kernel_rfl) rfl ⟨_, rfl⟩ (fun h => by cases h)
  · exact TyOK.of (d := (.int .i32)) (by kernel_rfl) (by kernel_rfl) rfl rfl (fun h => by cases h)
  · exact TyOK.of (d := (.func #[] #[4] false)) (by kernel_rfl) (by kernel_rfl) rfl ⟨_, _, _, rfl⟩ (fun h => by cases h)
  · exact TyOK.of (d := (.slice 9)) (by kernel_rfl) (by kernel_rfl) rfl rfl (fun h => by cases h)
  · exact TyOK.of (d := (.struct (Tryd.prog.fieldsOf 24))) (by kernel_rfl) (by kernel_rfl) rfl ⟨_, rfl, by kernel_rfl⟩ (fun h => by cases h)
  · exact TyOK.of (d := (.struct (Tryd.prog.fieldsOf 25))) (by kernel_rfl) (by kernel_rfl) rfl ⟨_, rfl, by kernel_rfl⟩ (fun h => by cases h)
  · exact TyOK.of (d := (.struct (Tryd.prog.fieldsOf 26))) (by kernel_rfl) (by kernel_rfl) rfl ⟨_, rfl, by kernel_rfl⟩ (fun h => by cases h)
  · exact TyOK.of (d := (.struct (Tryd.prog.fieldsOf 27))) (by kernel_rfl) (by kernel_rfl) rfl ⟨_, rfl, by kernel_rfl⟩ (fun h => by cases h)
  · exact TyOK.of (d := (.int .i64)) (by kernel_rfl) (by kernel_rfl) rfl rfl (fun h => by cases h)
  · exact TyOK.of (d := (.func #[9] #[27, 28] false)) (by kernel_rfl) (by kernel_rfl) rfl ⟨_, _, _, rfl⟩ (fun h => by cases h)
  · exact TyOK.of (d := (.func #[9] #[27, 3] false)) (by kernel_rfl) (by kernel_rfl) rfl ⟨_, _, _, rfl⟩ (fun h => by cases h)
  · exact TyOK.of (d := (.func #[27, 27] #[4] false)) (by kernel_rfl) (by kernel_rfl) rfl ⟨_, _, _, rfl⟩ (fun h => by cases h)
  · exact TyOK.of (d := (.func #[9] #[4] false)) (by kernel_rfl) (by kernel_rfl) rfl ⟨_, _, _, rfl⟩ (fun h => by cases h)
  · exact TyOK.of (d := (.func #[25] #[4] false)) (by kernel_rfl) (by kernel_rfl) rfl ⟨_, _, _, rfl⟩ (fun h => by cases h)
  · exact TyOK.of (d := (.func #[27] #[9, 28] false)) (by kernel_rfl) (by kernel_rfl) rfl ⟨_, _, _, rfl⟩ (fun h => by cases h)
  · exact TyOK.of (d := (.func #[27] #[9, 3] false)) (by kernel_rfl) (by kernel_rfl) rfl ⟨_, _, _, rfl⟩ (fun h => by cases h)
  · exact TyOK.of (d := (.func #[27] #[4] false)) (by kernel_rfl) (by kernel_rfl) rfl ⟨_, _, _, rfl⟩ (fun h => by cases h)
  · exact TyOK.of (d := (.slice 5)) (by kernel_rfl) (by kernel_rfl) rfl rfl (fun h => by cases h)
  · exact TyOK.of (d := (.func #[9] #[23] false)) (by kernel_rfl) (by kernel_rfl) rfl ⟨_, _, _, rfl⟩ (fun h => by cases h)
  · exact TyOK.of (d := (.func #[9, 41] #[4] false)) (by kernel_rfl) (by kernel_rfl) rfl ⟨_, _, _, rfl⟩ (fun h => by cases h)
  · exact TyOK.of (d := (.pointer 46)) (by kernel_rfl) (by kernel_rfl) rfl rfl (fun h => by cases h)
  · exact TyOK.of (d := (.struct (Tryd.prog.fieldsOf 45))) (by kernel_rfl) (by kernel_rfl) rfl ⟨_, rfl, by kernel_rfl⟩ (fun h => by cases h)
  · exact TyOK.of (d := (.struct (Tryd.prog.fieldsOf 46))) (by kernel_rfl) (by kernel_rfl) rfl ⟨_, rfl, by kernel_rfl⟩ (fun h => by cases h)
  · exact TyOK.of (d := (.func #[9] #[27] false)) (by kernel_rfl) (by kernel_rfl) rfl ⟨_, _, _, rfl⟩ (fun h => by cases h)
  · exact TyOK.of (d := (.func #[3, 3] #[3] false)) (by kernel_rfl) (by kernel_rfl) rfl ⟨_, _, _, rfl⟩ (fun h => by cases h)
  · exact TyOK.of (d := (.func #[4] #[9] false)) (by kernel_rfl) (by kernel_rfl) rfl ⟨_, _, _, rfl⟩ (fun h => by cases h)
  · exact TyOK.of (d := (.func #[] #[23] false)) (by kernel_rfl) (by kernel_rfl) rfl ⟨_, _, _, rfl⟩ (fun h => by cases h)
  · exact TyOK.of (d := (.func #[28] #[] false)) (by kernel_rfl) (by kernel_rfl) rfl ⟨_, _, _, rfl⟩ (fun h => by cases h)
  · exact TyOK.of (d := (.func #[9] #[9] false)) (by kernel_rfl) (by kernel_rfl) rfl ⟨_, _, _, rfl⟩ (fun h => by cases h)
  · exact TyOK.of (d := (.func #[9, 3, 3] #[3, 3] false)) (by kernel_rfl) (by kernel_rfl) rfl ⟨_, _, _, rfl⟩ (fun h => by cases h)
  · exact TyOK.of (d := (.func #[23] #[27, 3] false)) (by kernel_rfl) (by kernel_rfl) rfl ⟨_, _, _, rfl⟩ (fun h => by cases h)
  · exact TyOK.of (d := (.func #[23, 23] #[4] false)) (by kernel_rfl) (by kernel_rfl) rfl ⟨_, _, _, rfl⟩ (fun h => by cases h)
  · exact TyOK.of (d := (.func #[27] #[9] false)) (by kernel_rfl) (by kernel_rfl) rfl ⟨_, _, _, rfl⟩ (fun h => by cases h)
  · exact TyOK.of (d := (.func #[23] #[9] false)) (by kernel_rfl) (by kernel_rfl) rfl ⟨_, _, _, rfl⟩ (fun h => by cases h)
  · exact TyOK.of (d := (.func #[3, 3, 3] #[4] false)) (by kernel_rfl) (by kernel_rfl) rfl ⟨_, _, _, rfl⟩ (fun h => by cases h)
  · exact TyOK.of (d := (.func #[3] #[9] false)) (by kernel_rfl) (by kernel_rfl) rfl ⟨_, _, _, rfl⟩ (fun h => by cases h)
  · exact TyOK.of (d := (.func #[27, 3, 3, 3, 9] #[4] false)) (by kernel_rfl) (by kernel_rfl) rfl ⟨_, _, _, rfl⟩ (fun h => by cases h)
  · exact TyOK.of (d := (.func #[9, 5] #[23] false)) (by kernel_rfl) (by kernel_rfl) rfl ⟨_, _, _, rfl⟩ (fun h => by cases h)
  · exact TyOK.of (d := (.func #[9, 64] #[23] false)) (by kernel_rfl) (by kernel_rfl) rfl ⟨_, _, _, rfl⟩ (fun h => by cases h)
  · exact TyOK.of (d := (.func #[21] #[4] false)) (by kernel_rfl) (by kernel_rfl) rfl ⟨_, _, _, rfl⟩ (fun h => by cases h)
  · exact TyOK.of (d := (.func #[9, 9] #[9, 9, 4] false)) (by kernel_rfl) (by kernel_rfl) rfl ⟨_, _, _, rfl⟩ (fun h => by cases h)
  · exact TyOK.of (d := (.func #[9, 9] #[9] false)) (by kernel_rfl) (by kernel_rfl) rfl ⟨_, _, _, rfl⟩ (fun h => by cases h)
  · exact TyOK.of (d := (.func #[9, 9, 9] #[9] false)) (by kernel_rfl) (by kernel_rfl) rfl ⟨_, _, _, rfl⟩ (fun h => by cases h)
  · exact TyOK.of (d := (.func #[9, 3, 3] #[3, 4] false)) (by kernel_rfl) (by kernel_rfl) rfl ⟨_, _, _, rfl⟩ (fun h => by cases h)
  · exact TyOK.of (d := (.func #[] #[9] false)) (by kernel_rfl) (by kernel_rfl) rfl ⟨_, _, _, rfl⟩ (fun h => by cases h)
  · exact TyOK.of (d := (.func #[9] #[23, 4] false)) (by kernel_rfl) (by kernel_rfl) rfl ⟨_, _, _, rfl⟩ (fun h => by cases h)
  · exact TyOK.of (d := (.func #[23, 9] #[9] false)) (by kernel_rfl) (by kernel_rfl) rfl ⟨_, _, _, rfl⟩ (fun h => by cases h)
  · exact TyOK.of (d := (.func #[23] #[4] false)) (by kernel_rfl) (by kernel_rfl) rfl ⟨_, _, _, rfl⟩ (fun h => by cases h)
  · exact TyOK.of (d := (.func #[5] #[4] false)) (by kernel_rfl) (by kernel_rfl) rfl ⟨_, _, _, rfl⟩ (fun h => by cases h)
  · exact TyOK.of (d := (.slice 79)) (by kernel_rfl) (by kernel_rfl) rfl rfl (fun h => by cases h)
  · exact TyOK.of (d := (.struct (Tryd.prog.fieldsOf 78))) (by kernel_rfl) (by kernel_rfl) rfl ⟨_, rfl, by kernel_rfl⟩ (fun _ => ⟨by kernel_rfl, by kernel_rfl, by kernel_rfl, by kernel_rfl⟩)
  · exact TyOK.of (d := (.struct (Tryd.prog.fieldsOf 79))) (by kernel_rfl) (by kernel_rfl) rfl ⟨_, rfl, by kernel_rfl⟩ (fun _ => ⟨by kernel_rfl, by kernel_rfl, by kernel_rfl, by kernel_rfl⟩)
  · exact TyOK.of (d := (.func #[9, 9, 9, 3] #[9] false)) (by kernel_rfl) (by kernel_rfl) rfl ⟨_, _, _, rfl⟩ (fun h => by cases h)
  · exact TyOK.of (d := (.func #[9, 5] #[3] false)) (by kernel_rfl) (by kernel_rfl) rfl ⟨_, _, _, rfl⟩ (fun h => by cases h)
  · exact TyOK.of (d := (.func #[9, 9] #[23] false)) (by kernel_rfl) (by kernel_rfl) rfl ⟨_, _, _, rfl⟩ (fun h => by cases h)
  · exact TyOK.of (d := (.pointer 85)) (by kernel_rfl) (by kernel_rfl) rfl rfl (fun h => by cases h)
  · exact TyOK.of (d := (.struct (Tryd.prog.fieldsOf 84))) (by kernel_rfl) (by kernel_rfl) rfl ⟨_, rfl, by kernel_rfl⟩ (fun h => by cases h)
  · exact TyOK.of (d := (.struct (Tryd.prog.fieldsOf 85))) (by kernel_rfl) (by kernel_rfl) rfl ⟨_, rfl, by kernel_rfl⟩ (fun h => by cases h)
  · exact TyOK.of (d := (.func #[3] #[] false)) (by kernel_rfl) (by kernel_rfl) rfl ⟨_, _, _, rfl⟩ (fun h => by cases h)
  · exact TyOK.of (d := (.interface #[("Error", 71)])) (by kernel_rfl) (by kernel_rfl) rfl ⟨_, rfl⟩ (fun h => by cases h)
  · exact TyOK.of (d := (.interface #[("Error", 71)])) (by kernel_rfl) (by kernel_rfl) rfl ⟨_, rfl⟩ (fun h => by cases h)
  · exact TyOK.of (d := (.func #[9] #[3, 88] false)) (by kernel_rfl) (by kernel_rfl) rfl ⟨_, _, _, rfl⟩ (fun h => by cases h)
  · exact TyOK.of (d := (.func #[9, 9] #[3] false)) (by kernel_rfl) (by kernel_rfl) rfl ⟨_, _, _, rfl⟩ (fun h => by cases h)
  · exact TyOK.of (d := (.func #[9, 9] #[4] false)) (by kernel_rfl) (by kernel_rfl) rfl ⟨_, _, _, rfl⟩ (fun h => by cases h)
  · exact TyOK.of (d := (.func #[9] #[21, 3] false)) (by kernel_rfl) (by kernel_rfl) rfl ⟨_, _, _, rfl⟩ (fun h => by cases h)
  · exact TyOK.of (d := (.func #[9, 9, 3, 3] #[23] false)) (by kernel_rfl) (by kernel_rfl) rfl ⟨_, _, _, rfl⟩ (fun h => by cases h)
  · exact TyOK.of (d := (.func #[23, 9] #[4] false)) (by kernel_rfl) (by kernel_rfl) rfl ⟨_, _, _, rfl⟩ (fun h => by cases h)
  · exact TyOK.of (d := (.pointer 5)) (by kernel_rfl) (by kernel_rfl) rfl rfl (fun h => by cases h)
  · exact TyOK.of (d := (.func #[3] #[3] false)) (by kernel_rfl) (by kernel_rfl) rfl ⟨_, _, _, rfl⟩ (fun h => by cases h)
  · exact TyOK.of (d := (.int .u64)) (by kernel_rfl) (by kernel_rfl) rfl rfl (fun h => by cases h)
  · exact TyOK.of (d := (.func #[9] #[3] false)) (by kernel_rfl) (by kernel_rfl) rfl ⟨_, _, _, rfl⟩ (fun h => by cases h)
  · exact TyOK.of (d := (.func #[9, 3] #[23] false)) (by kernel_rfl) (by kernel_rfl) rfl ⟨_, _, _, rfl⟩ (fun h => by cases h)
  · exact TyOK.of (d := (.func #[23, 9] #[3] false)) (by kernel_rfl) (by kernel_rfl) rfl ⟨_, _, _, rfl⟩ (fun h => by cases h)
  · exact TyOK.of (d := (.func #[3] #[41] false)) (by kernel_rfl) (by kernel_rfl) rfl ⟨_, _, _, rfl⟩ (fun h => by cases h)
  · exact TyOK.of (d := (.func #[2, 3] #[9] false)) (by kernel_rfl) (by kernel_rfl) rfl ⟨_, _, _, rfl⟩ (fun h => by cases h)
  · exact TyOK.of (d := (.int .u32)) (by kernel_rfl) (by kernel_rfl) rfl rfl (fun h => by cases h)
  · exact TyOK.of (d := (.func #[9] #[107, 107] false)) (by kernel_rfl) (by kernel_rfl) rfl ⟨_, _, _, rfl⟩ (fun h => by cases h)
  · exact TyOK.of (d := (.array 256 5)) (by kernel_rfl) (by kernel_rfl) rfl rfl (fun h => by cases h)
  · exact TyOK.of (d := (.struct (Tryd.prog.fieldsOf 111))) (by kernel_rfl) (by kernel_rfl) rfl ⟨_, rfl, by kernel_rfl⟩ (fun _ => ⟨by kernel_rfl, by kernel_rfl, by kernel_rfl, by kernel_rfl⟩)
  · exact TyOK.of (d := (.struct (Tryd.prog.fieldsOf 112))) (by kernel_rfl) (by kernel_rfl) rfl ⟨_, rfl, by kernel_rfl⟩ (fun _ => ⟨by kernel_rfl, by kernel_rfl, by kernel_rfl, by kernel_rfl⟩)
  · exact TyOK.of (d := (.array 16 112)) (by kernel_rfl) (by kernel_rfl) rfl rfl (fun h => by cases h)
  · exact TyOK.of (d := (.array 24 5)) (by kernel_rfl) (by kernel_rfl) rfl rfl (fun h => by cases h)
  · exact TyOK.of (d := (.int .u64)) (by kernel_rfl) (by kernel_rfl) rfl rfl (fun h => by cases h)
  · exact TyOK.of (d := (.func #[115] #[3] false)) (by kernel_rfl) (by kernel_rfl) rfl ⟨_, _, _, rfl⟩ (fun h => by cases h)
  · exact TyOK.of (d := (.func #[41, 115] #[] false)) (by kernel_rfl) (by kernel_rfl) rfl ⟨_, _, _, rfl⟩ (fun h => by cases h)
  · exact TyOK.of (d := (.func #[41, 115, 3, 4, 4] #[41, 9] false)) (by kernel_rfl) (by kernel_rfl) rfl ⟨_, _, _, rfl⟩ (fun h => by cases h)
  · exact TyOK.of (d := (.func #[4] #[3] false)) (by kernel_rfl) (by kernel_rfl) rfl ⟨_, _, _, rfl⟩ (fun h => by cases h)
  · exact TyOK.of (d := (.array 20 115)) (by kernel_rfl) (by kernel_rfl) rfl rfl (fun h => by cases h)
  · exact TyOK.of (d := (.array 65 5)) (by kernel_rfl) (by kernel_rfl) rfl rfl (fun h => by cases h)
  · exact TyOK.of (d := (.func #[3] #[4] false)) (by kernel_rfl) (by kernel_rfl) rfl ⟨_, _, _, rfl⟩ (fun h => by cases h)
  · exact TyOK.of (d := (.func #[99] #[3] false)) (by kernel_rfl) (by kernel_rfl) rfl ⟨_, _, _, rfl⟩ (fun h => by cases h)
  · exact TyOK.of (d := (.func #[107] #[3] false)) (by kernel_rfl) (by kernel_rfl) rfl ⟨_, _, _, rfl⟩ (fun h => by cases h)
  · exact TyOK.of (d := (.array 32 5)) (by kernel_rfl) (by kernel_rfl) rfl rfl (fun h => by cases h)
  · exact TyOK.of (d := (.array 64 5)) (by kernel_rfl) (by kernel_rfl) rfl rfl (fun h => by cases h)
  · exact TyOK.of (d := (.func #[] #[3] false)) (by kernel_rfl) (by kernel_rfl) rfl ⟨_, _, _, rfl⟩ (fun h => by cases h)
end Go.Proofs.YtmhkmoeailamlaaDoor
