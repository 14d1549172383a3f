/- The library of this claim and its walks, part 13, joined out of smaller texts. No statement stands in it. -/
import Derived.Test.YtlcgjeafmbbipaaDoorUaM12
import Derived.Test.YtlcgjeafmbbipaaDoorProg
/- The types of this program, as the evaluator needs them; what its package variables hold. -/
namespace Go.Proofs.YtlcgjeafmbbipaaDoor
open Go Go.Proofs Go.Ua
set_option linter.unusedVariables false
def pow10Cs : List Value := Lib.pow10Tab.map fun z => Value.int .u64 z
instance : Globs Tryd.prog := ⟨fun b p => (b = 3 ∧ p = fun cs => cs = pow10Cs) ∨ (b = 0 ∧ p = fun cs => ∃ m, cs[0]? = some (Value.int .i64 m)) ∨ (b = 5 ∧ p = fun cs => cs[15]? = some (Value.int .u8 4))⟩
theorem G_pow10 : Globs.G Tryd.prog 3 (fun cs => cs = pow10Cs) := (.inl ⟨rfl, rfl⟩)
theorem G_maxlen : Globs.G Tryd.prog 0 (fun cs => ∃ m, cs[0]? = some (Value.int .i64 m)) := (.inr (.inl ⟨rfl, rfl⟩))
theorem G_db64 : Globs.G Tryd.prog 5 (fun cs => cs[15]? = some (Value.int .u8 4)) := (.inr (.inr ⟨rfl, rfl⟩))
/-- The types that the functions of this seat name. -/
def tab : Tab := [
  (1, { k := .func, size := 1, bytes := 8, zero := [.fn0] }),
  (2, { k := .int .i64, size := 1, bytes := 8, zero := [.int .i64 0] }),
  (3, { k := .int .i64, size := 1, bytes := 8, zero := [.int .i64 0] }),
  (4, { k := .bool, size := 1, bytes := 1, zero := [.bool false] }),
  (5, { k := .int .u8, size := 1, bytes := 1, zero := [.int .u8 0] }),
  (9, { k := .string, size := 1, bytes := 16, zero := [.str []] }),
  (20, { k := .iface, size := 1, bytes := 16, zero := [.if0] }),
  (21, { k := .int .i32, size := 1, bytes := 4, zero := [.int .i32 0] }),
  (22, { k := .func, size := 1, bytes := 8, zero := [.fn0] }),
  (23, { k := .int .i64, size := 1, bytes := 8, zero := [.int .i64 0] }),
  (25, { k := .func, size := 1, bytes := 8, zero := [.fn0] }),
  (27, { k := .func, size := 1, bytes := 8, zero := [.fn0] }),
  (28, { k := .func, size := 1, bytes := 8, zero := [.fn0] }),
  (29, { k := .slice 9, size := 1, bytes := 24, zero := [.sl0] }),
  (30, { k := .func, size := 1, bytes := 8, zero := [.fn0] }),
  (31, { k := .func, size := 1, bytes := 8, zero := [.fn0] }),
  (32, { k := .slice 37, size := 1, bytes := 24, zero := [.sl0] }),
  (34, { k := .func, size := 1, bytes := 8, zero := [.fn0] }),
  (35, { k := .int .u64, size := 1, bytes := 8, zero := [.int .u64 0] }),
  (36, { k := .struct [(0, 3), (1, 3), (2, 3), (3, 9), (4, 3), (5, 23), (6, 35)], size := 7, bytes := 64, zero := [.int .i64 0, .int .i64 0, .int .i64 0, .str [], .int .i64 0, .int .i64 0, .int .u64 0], eq := true }),
  (37, { k := .struct [(0, 3), (1, 3), (2, 3), (3, 9), (4, 3), (5, 23), (6, 35)], size := 7, bytes := 64, zero := [.int .i64 0, .int .i64 0, .int .i64 0, .str [], .int .i64 0, .int .i64 0, .int .u64 0], eq := true }),
  (38, { k := .func, size := 1, bytes := 8, zero := [.fn0] }),
  (39, { k := .func, size := 1, bytes := 8, zero := [.fn0] }),
  (40, { k := .func, size := 1, bytes := 8, zero := [.fn0] }),
  (41, { k := .slice 58, size := 1, bytes := 24, zero := [.sl0] }),
  (43, { k := .func, size := 1, bytes := 8, zero := [.fn0] }),
  (45, { k := .func, size := 1, bytes := 8, zero := [.fn0] }),
  (47, { k := .func, size := 1, bytes := 8, zero := [.fn0] }),
  (48, { k := .func, size := 1, bytes := 8, zero := [.fn0] }),
  (50, { k := .func, size := 1, bytes := 8, zero := [.fn0] }),
  (51, { k := .func, size := 1, bytes := 8, zero := [.fn0] }),
  (53, { k := .func, size := 1, bytes := 8, zero := [.fn0] }),
  (54, { k := .func, size := 1, bytes := 8, zero := [.fn0] }),
  (56, { k := .func, size := 1, bytes := 8, zero := [.fn0] }),
  (57, { k := .struct [(0, 3), (1, 3), (2, 9)], size := 3, bytes := 32, zero := [.int .i64 0, .int .i64 0, .str []], eq := true }),
  (58, { k := .struct [(0, 3), (1, 3), (2, 9)], size := 3, bytes := 32, zero := [.int .i64 0, .int .i64 0, .str []], eq := true }),
  (60, { k := .func, size := 1, bytes := 8, zero := [.fn0] }),
  (61, { k := .func, size := 1, bytes := 8, zero := [.fn0] }),
  (63, { k := .func, size := 1, bytes := 8, zero := [.fn0] }),
  (65, { k := .func, size := 1, bytes := 8, zero := [.fn0] }),
  (67, { k := .func, size := 1, bytes := 8, zero := [.fn0] }),
  (68, { k := .func, size := 1, bytes := 8, zero := [.fn0] }),
  (69, { k := .func, size := 1, bytes := 8, zero := [.fn0] }),
  (70, { k := .func, size := 1, bytes := 8, zero := [.fn0] }),
  (71, { k := .func, size := 1, bytes := 8, zero := [.fn0] }),
  (72, { k := .func, size := 1, bytes := 8, zero := [.fn0] }),
  (73, { k := .func, size := 1, bytes := 8, zero := [.fn0] }),
  (74, { k := .func, size := 1, bytes := 8, zero := [.fn0] }),
  (75, { k := .func, size := 1, bytes := 8, zero := [.fn0] }),
  (76, { k := .func, size := 1, bytes := 8, zero := [.fn0] }),
  (77, { k := .func, size := 1, bytes := 8, zero := [.fn0] }),
  (78, { k := .array 3 9, size := 3, bytes := 48, zero := [.str [], .str [], .str []] }),
  (79, { k := .func, size := 1, bytes := 8, zero := [.fn0] }),
  (80, { k := .func, size := 1, bytes := 8, zero := [.fn0] }),
  (81, { k := .func, size := 1, bytes := 8, zero := [.fn0] }),
  (82, { k := .int .u64, size := 1, bytes := 8, zero := [.int .u64 0] }),
  (83, { k := .func, size := 1, bytes := 8, zero := [.fn0] }),
  (84, { k := .slice 86, size := 1, bytes := 24, zero := [.sl0] }),
  (85, { k := .struct [(0, 3), (1, 3)], size := 2, bytes := 16, zero := [.int .i64 0, .int .i64 0], eq := true }),
  (86, { k := .struct [(0, 3), (1, 3)], size := 2, bytes := 16, zero := [.int .i64 0, .int .i64 0], eq := true }),
  (87, { k := .func, size := 1, bytes := 8, zero := [.fn0] }),
  (88, { k := .func, size := 1, bytes := 8, zero := [.fn0] }),
  (89, { k := .pointer 92, size := 1, bytes := 8, zero := [.ptr0] }),
  (90, { k := .slice 5, size := 1, bytes := 24, zero := [.sl0] }),
  (91, { k := .struct [(0, 89), (1, 90)], size := 2, bytes := 32, zero := [.ptr0, .sl0] }),
  (92, { k := .struct [(0, 89), (1, 90)], size := 2, bytes := 32, zero := [.ptr0, .sl0] }),
  (93, { k := .func, size := 1, bytes := 8, zero := [.fn0] }),
  (94, { k := .iface, size := 1, bytes := 16, zero := [.if0] }),
  (95, { k := .iface, size := 1, bytes := 16, zero := [.if0] }),
  (97, { k := .func, size := 1, bytes := 8, zero := [.fn0] }),
  (98, { k := .func, size := 1, bytes := 8, zero := [.fn0] }),
  (99, { k := .func, size := 1, bytes := 8, zero := [.fn0] }),
  (100, { k := .func, size := 1, bytes := 8, zero := [.fn0] }),
  (101, { k := .func, size := 1, bytes := 8, zero := [.fn0] }),
  (103, { k := .func, size := 1, bytes := 8, zero := [.fn0] }),
  (105, { k := .func, size := 1, bytes := 8, zero := [.fn0] }),
  (106, { k := .func, size := 1, bytes := 8, zero := [.fn0] }),
  (107, { k := .func, size := 1, bytes := 8, zero := [.fn0] }),
  (108, { k := .pointer 5, size := 1, bytes := 8, zero := [.ptr0] }),
  (109, { k := .func, size := 1, bytes := 8, zero := [.fn0] }),
  (110, { k := .func, size := 1, bytes := 8, zero := [.fn0] }),
  (111, { k := .array 24 5, size := 24, bytes := 24, zero := [.int .u8 0, .int .u8 0, .int .u8 0, .int .u8 0, .int .u8 0, .int .u8 0, .int .u8 0, .int .u8 0, .int .u8 0, .int .u8 0, .int .u8 0, .int .u8 0, .int .u8 0, .int .u8 0, .int .u8 0, .int .u8 0, .int .u8 0, .int .u8 0, .int .u8 0, .int .u8 0, .int .u8 0, .int .u8 0, .int .u8 0, .int .u8 0] }),
  (112, { k := .func, size := 1, bytes := 8, zero := [.fn0] }),
  (113, { k := .func, size := 1, bytes := 8, zero := [.fn0] }),
  (115, { k := .func, size := 1, bytes := 8, zero := [.fn0] }),
  (116, { k := .int .u32, size := 1, bytes := 4, zero := [.int .u32 0] }),
  (118, { k := .func, size := 1, bytes := 8, zero := [.fn0] }),
  (120, { k := .func, size := 1, bytes := 8, zero := [.fn0] }),
  (123, { k := .func, size := 1, bytes := 8, zero := [.fn0] }),
  (124, { k := .array 256 5, size := 256, bytes := 256, zero := [.int .u8 0, .int .u8 0, .int .u8 0, .int .u8 0, .int .u8 0, .int .u8 0, .int .u8 0, .int .u8 0, .int .u8 0, .int .u8 0, .int .u8 0, .int .u8 0, .int .u8 0, .int .u8 0, .int .u8 0, .int .u8 0, .int .u8 0, .int .u8 0, .int .u8 0, .int .u8 0, .int .u8 0, .int .u8 0, .int .u8 0, .int .u8 0, .int .u8 0, .int .u8 0, .int .u8 0, .int .u8 0, .int .u8 0, .int .u8 0, .int .u8 0, .int .u8 0, .int .u8 0, .int .u8 0, .int .u8 0, .int .u8 0, .int .u8 0, .int .u8 0, .int .u8 0, .int .u8 0, .int .u8 0, .int .u8 0, .int .u8 0, .int .u8 0, .int .u8 0, .int .u8 0, .int .u8 0, .int .u8 0, .int .u8 0, .int .u8 0, .int .u8 0, .int .u8 0, .int .u8 0, .int .u8 0, .int .u8 0, .int .u8 0, .int .u8 0, .int .u8 0, .int .u8 0, .int .u8 0, .int .u8 0, .int .u8 0, .int .u8 0, .int .u8 0, .int .u8 0, .int .u8 0, .int .u8 0, .int .u8 0, .int .u8 0, .int .u8 0, .int .u8 0, .int .u8 0, .int .u8 0, .int .u8 0, .int .u8 0, .int .u8 0, .int .u8 0, .int .u8 0, .int .u8 0, .int .u8 0, .int .u8 0, .int .u8 0, .int .u8 0, .int .u8 0, .int .u8 0, .int .u8 0, .int .u8 0, .int .u8 0, .int .u8 0, .int .u8 0, .int .u8 0, .int .u8 0, .int .u8 0, .int .u8 0, .int .u8 0, .int .u8 0, .int .u8 0, .int .u8 0, .int .u8 0, .int .u8 0, .int .u8 0, .int .u8 0, .int .u8 0, .int .u8 0, .int .u8 0, .int .u8 0, .int .u8 0, .int .u8 0, .int .u8 0, .int .u8 0, .int .u8 0, .int .u8 0, .int .u8 0, .int .u8 0, .int .u8 0, .int .u8 0, .int .u8 0, .int .u8 0, .int .u8 0, .int .u8 0, .int .u8 0, .int .u8 0, .int .u8 0, .int .u8 0, .int .u8 0, .int .u8 0, .int .u8 0, .int .u8 0, .int .u8 0, .int .u8 0, .int .u8 0, .int .u8 0, .int .u8 0, .int .u8 0, .int .u8 0, .int .u8 0, .int .u8 0, .int .u8 0, .int .u8 0, .int .u8 0, .int .u8 0, .int .u8 0, .int .u8 0, .int .u8 0, .int .u8 0, .int .u8 0, .int .u8 0, .int .u8 0, .int .u8 0, .int .u8 0, .int .u8 0, .int .u8 0, .int .u8 0, .int .u8 0, .int .u8 0, .int .u8 0, .int .u8 0, .int .u8 0, .int .u8 0, .int .u8 0, .int .u8 0, .int .u8 0, .int .u8 0, .int .u8 0, .int .u8 0, .int .u8 0, .int .u8 0, .int .u8 0, .int .u8 0, .int .u8 0, .int .u8 0, .int .u8 0, .int .u8 0, .int .u8 0, .int .u8 0, .int .u8 0, .int .u8 0, .int .u8 0, .int .u8 0, .int .u8 0, .int .u8 0, .int .u8 0, .int .u8 0, .int .u8 0, .int .u8 0, .int .u8 0, .int .u8 0, .int .u8 0, .int .u8 0, .int .u8 0, .int .u8 0, .int .u8 0, .int .u8 0, .int .u8 0, .int .u8 0, .int .u8 0, .int .u8 0, .int .u8 0, .int .u8 0, .int .u8 0, .int .u8 0, .int .u8 0, .int .u8 0, .int .u8 0, .int .u8 0, .int .u8 0, .int .u8 0, .int .u8 0, .int .u8 0, .int .u8 0, .int .u8 0, .int .u8 0, .int .u8 0, .int .u8 0, .int .u8 0, .int .u8 0, .int .u8 0, .int .u8 0, .int .u8 0, .int .u8 0, .int .u8 0, .int .u8 0, .int .u8 0, .int .u8 0, .int .u8 0, .int .u8 0, .int .u8 0, .int .u8 0, .int .u8 0, .int .u8 0, .int .u8 0, .int .u8 0, .int .u8 0, .int .u8 0, .int .u8 0, .int .u8 0, .int .u8 0, .int .u8 0, .int .u8 0, .int .u8 0, .int .u8 0, .int .u8 0, .int .u8 0, .int .u8 0, .int .u8 0, .int .u8 0, .int .u8 0, .int .u8 0, .int .u8 0, .int .u8 0, .int .u8 0, .int .u8 0, .int .u8 0, .int .u8 0, .int .u8 0, .int .u8 0] }),
  (125, { k := .struct [(0, 5), (1, 5)], size := 2, bytes := 2, zero := [.int .u8 0, .int .u8 0], eq := true }),
  (126, { k := .struct [(0, 5), (1, 5)], size := 2, bytes := 2, zero := [.int .u8 0, .int .u8 0], eq := true }),
  (127, { k := .array 16 126, size := 32, bytes := 32, zero := [.int .u8 0, .int .u8 0, .int .u8 0, .int .u8 0, .int .u8 0, .int .u8 0, .int .u8 0, .int .u8 0, .int .u8 0, .int .u8 0, .int .u8 0, .int .u8 0, .int .u8 0, .int .u8 0, .int .u8 0, .int .u8 0, .int .u8 0, .int .u8 0, .int .u8 0, .int .u8 0, .int .u8 0, .int .u8 0, .int .u8 0, .int .u8 0, .int .u8 0, .int .u8 0, .int .u8 0, .int .u8 0, .int .u8 0, .int .u8 0, .int .u8 0, .int .u8 0] }),
  (128, { k := .func, size := 1, bytes := 8, zero := [.fn0] }),
  (129, { k := .func, size := 1, bytes := 8, zero := [.fn0] }),
  (130, { k := .array 20 35, size := 20, bytes := 160, zero := [.int .u64 0, .int .u64 0, .int .u64 0, .int .u64 0, .int .u64 0, .int .u64 0, .int .u64 0, .int .u64 0, .int .u64 0, .int .u64 0, .int .u64 0, .int .u64 0, .int .u64 0, .int .u64 0, .int .u64 0, .int .u64 0, .int .u64 0, .int .u64 0, .int .u64 0, .int .u64 0] }),
  (131, { k := .array 65 5, size := 65, bytes := 65, zero := [.int .u8 0, .int .u8 0, .int .u8 0, .int .u8 0, .int .u8 0, .int .u8 0, .int .u8 0, .int .u8 0, .int .u8 0, .int .u8 0, .int .u8 0, .int .u8 0, .int .u8 0, .int .u8 0, .int .u8 0, .int .u8 0, .int .u8 0, .int .u8 0, .int .u8 0, .int .u8 0, .int .u8 0, .int .u8 0, .int .u8 0, .int .u8 0, .int .u8 0, .int .u8 0, .int .u8 0, .int .u8 0, .int .u8 0, .int .u8 0, .int .u8 0, .int .u8 0, .int .u8 0, .int .u8 0, .int .u8 0, .int .u8 0, .int .u8 0, .int .u8 0, .int .u8 0, .int .u8 0, .int .u8 0, .int .u8 0, .int .u8 0, .int .u8 0, .int .u8 0, .int .u8 0, .int .u8 0, .int .u8 0, .int .u8 0, .int .u8 0, .int .u8 0, .int .u8 0, .int .u8 0, .int .u8 0, .int .u8 0, .int .u8 0, .int .u8 0, .int .u8 0, .int .u8 0, .int .u8 0, .int .u8 0, .int .u8 0, .int .u8 0, .int .u8 0, .int .u8 0] }),
  (132, { k := .func, size := 1, bytes := 8, zero := [.fn0] }),
  (133, { k := .func, size := 1, bytes := 8, zero := [.fn0] }),
  (134, { k := .array 32 5, size := 32, bytes := 32, zero := [.int .u8 0, .int .u8 0, .int .u8 0, .int .u8 0, .int .u8 0, .int .u8 0, .int .u8 0, .int .u8 0, .int .u8 0, .int .u8 0, .int .u8 0, .int .u8 0, .int .u8 0, .int .u8 0, .int .u8 0, .int .u8 0, .int .u8 0, .int .u8 0, .int .u8 0, .int .u8 0, .int .u8 0, .int .u8 0, .int .u8 0, .int .u8 0, .int .u8 0, .int .u8 0, .int .u8 0, .int .u8 0, .int .u8 0, .int .u8 0, .int .u8 0, .int .u8 0] }),
  (135, { k := .array 64 5, size := 64, bytes := 64, zero := [.int .u8 0, .int .u8 0, .int .u8 0, .int .u8 0, .int .u8 0, .int .u8 0, .int .u8 0, .int .u8 0, .int .u8 0, .int .u8 0, .int .u8 0, .int .u8 0, .int .u8 0, .int .u8 0, .int .u8 0, .int .u8 0, .int .u8 0, .int .u8 0, .int .u8 0, .int .u8 0, .int .u8 0, .int .u8 0, .int .u8 0, .int .u8 0, .int .u8 0, .int .u8 0, .int .u8 0, .int .u8 0, .int .u8 0, .int .u8 0, .int .u8 0, .int .u8 0, .int .u8 0, .int .u8 0, .int .u8 0, .int .u8 0, .int .u8 0, .int .u8 0, .int .u8 0, .int .u8 0, .int .u8 0, .int .u8 0, .int .u8 0, .int .u8 0, .int .u8 0, .int .u8 0, .int .u8 0, .int .u8 0, .int .u8 0, .int .u8 0, .int .u8 0, .int .u8 0, .int .u8 0, .int .u8 0, .int .u8 0, .int .u8 0, .int .u8 0, .int .u8 0, .int .u8 0, .int .u8 0, .int .u8 0, .int .u8 0, .int .u8 0, .int .u8 0] })]
set_option maxRecDepth 100000 in
theorem tabOK : TabOK Tryd.prog tab := by
  refine ⟨?_, ?_, ?_, ?_, ?_, ?_, ?_, ?_, ?_, ?_, ?_, ?_, ?_, ?_, ?_, ?_, ?_, ?_, ?_, ?_, ?_, ?_, ?_, ?_, ?_, ?_, ?_, ?_, ?_, ?_, ?_, ?_, ?_, ?_, ?_, ?_, ?_, ?_, ?_, ?_, ?_, ?_, ?_, ?_, ?_, ?_, ?_, ?_, ?_, ?_, ?_, ?_, ?_, ?_, ?_, ?_, ?_, ?_, ?_, ?_, ?_, ?_, ?_, ?_, ?_, ?_, ?_, ?_, ?_, ?_, ?_, ?_, ?_, ?_, ?_, ?_, ?_, ?_, ?_, ?_, ?_, ?_, ?_, ?_, ?_, ?_, ?_, ?_, ?_, ?_, ?_, ?_, ?_, ?_, ?_, ?_, ?_, ?_, ?_, ?_, ?_, trivial⟩
  · exact TyOK.of (d := (.func #[] #[] false)) (by kernel_rfl) (by kernel_rfl) rfl ⟨_, _, _, rfl⟩ (fun h => by cases h)
  · exact TyOK.of (d := (.int .i64)) (by kernel_rfl) (by kernel_rfl) rfl rfl (fun h => by cases h)
  · exact TyOK.of (d := (.int .i64)) (by kernel_rfl) (by kernel_rfl) rfl rfl (fun h => by cases h)
  · exact TyOK.of (d := .bool) (by kernel_rfl) (by kernel_rfl) rfl rfl (fun h => by cases h)
  · exact TyOK.of (d := (.int .u8)) (by kernel_rfl) (by kernel_rfl) rfl rfl (fun h => by cases h)
  · exact TyOK.of (d := .string) (by kernel_rfl) (by kernel_rfl) rfl rfl (fun h => by cases h)
  · exact TyOK.of (d := (.interface #[])) (by kernel_rfl) (by kernel_rfl) rfl ⟨_, rfl⟩ (fun h => by cases h)
  · exact TyOK.of (d := (.int .i32)) (by kernel_rfl) (by kernel_rfl) rfl rfl (fun h => by cases h)
  · exact TyOK.of (d := (.func #[] #[4] false)) (by kernel_rfl) (by kernel_rfl) rfl ⟨_, _, _, rfl⟩ (fun h => by cases h)
  · exact TyOK.of (d := (.int .i64)) (by kernel_rfl) (by kernel_rfl) rfl rfl (fun h => by cases h)
  · exact TyOK.of (d := (.func #[9] #[3, 23] false)) (by kernel_rfl) (by kernel_rfl) rfl ⟨_, _, _, rfl⟩ (fun h => by cases h)
  · exact TyOK.of (d := (.func #[9] #[3, 3] false)) (by kernel_rfl) (by kernel_rfl) rfl ⟨_, _, _, rfl⟩ (fun h => by cases h)
  · exact TyOK.of (d := (.func #[9] #[4] false)) (by kernel_rfl) (by kernel_rfl) rfl ⟨_, _, _, rfl⟩ (fun h => by cases h)
  · exact TyOK.of (d := (.slice 9)) (by kernel_rfl) (by kernel_rfl) rfl rfl (fun h => by cases h)
  · exact TyOK.of (d := (.func #[9] #[29] false)) (by kernel_rfl) (by kernel_rfl) rfl ⟨_, _, _, rfl⟩ (fun h => by cases h)
  · exact TyOK.of (d := (.func #[9, 3] #[4] false)) (by kernel_rfl) (by kernel_rfl) rfl ⟨_, _, _, rfl⟩ (fun h => by cases h)
  · exact TyOK.of (d := (.slice 37)) (by kernel_rfl) (by kernel_rfl) rfl rfl (fun h => by cases h)
  · exact TyOK.of (d := (.func #[32] #[9, 4] false)) (by kernel_rfl) (by kernel_rfl) rfl ⟨_, _, _, rfl⟩ (fun h => by cases h)
  · exact TyOK.of (d := (.int .u64)) (by kernel_rfl) (by kernel_rfl) rfl rfl (fun h => by cases h)
  · exact TyOK.of (d := (.struct (Tryd.prog.fieldsOf 36))) (by kernel_rfl) (by kernel_rfl) rfl ⟨_, rfl, by kernel_rfl⟩ (fun _ => ⟨by kernel_rfl, by kernel_rfl, by kernel_rfl, by kernel_rfl⟩)
  · exact TyOK.of (d := (.struct (Tryd.prog.fieldsOf 37))) (by kernel_rfl) (by kernel_rfl) rfl ⟨_, rfl, by kernel_rfl⟩ (fun _ => ⟨by kernel_rfl, by kernel_rfl, by kernel_rfl, by kernel_rfl⟩)
  · exact TyOK.of (d := (.func #[32, 3, 3] #[4] false)) (by kernel_rfl) (by kernel_rfl) rfl ⟨_, _, _, rfl⟩ (fun h => by cases h)
  · exact TyOK.of (d := (.func #[32, 3] #[4] false)) (by kernel_rfl) (by kernel_rfl) rfl ⟨_, _, _, rfl⟩ (fun h => by cases h)
  · exact TyOK.of (d := (.func #[32, 32] #[4] false)) (by kernel_rfl) (by kernel_rfl) rfl ⟨_, _, _, rfl⟩ (fun h => by cases h)
  · exact TyOK.of (d := (.slice 58)) (by kernel_rfl) (by kernel_rfl) rfl rfl (fun h => by cases h)
  · exact TyOK.of (d := (.func #[9] #[37, 23] false)) (by kernel_rfl) (by kernel_rfl) rfl ⟨_, _, _, rfl⟩ (fun h => by cases h)
  · exact TyOK.of (d := (.func #[41, 37] #[41, 4] false)) (by kernel_rfl) (by kernel_rfl) rfl ⟨_, _, _, rfl⟩ (fun h => by cases h)
  · exact TyOK.of (d := (.func #[9] #[37, 3] false)) (by kernel_rfl) (by kernel_rfl) rfl ⟨_, _, _, rfl⟩ (fun h => by cases h)
  · exact TyOK.of (d := (.func #[9, 5] #[29] false)) (by kernel_rfl) (by kernel_rfl) rfl ⟨_, _, _, rfl⟩ (fun h => by cases h)
  · exact TyOK.of (d := (.func #[37] #[9, 23] false)) (by kernel_rfl) (by kernel_rfl) rfl ⟨_, _, _, rfl⟩ (fun h => by cases h)
  · exact TyOK.of (d := (.func #[9, 9] #[29] false)) (by kernel_rfl) (by kernel_rfl) rfl ⟨_, _, _, rfl⟩ (fun h => by cases h)
  · exact TyOK.of (d := (.func #[29] #[37, 4] false)) (by kernel_rfl) (by kernel_rfl) rfl ⟨_, _, _, rfl⟩ (fun h => by cases h)
  · exact TyOK.of (d := (.func #[37] #[9] false)) (by kernel_rfl) (by kernel_rfl) rfl ⟨_, _, _, rfl⟩ (fun h => by cases h)
  · exact TyOK.of (d := (.func #[41, 58] #[41, 23] false)) (by kernel_rfl) (by kernel_rfl) rfl ⟨_, _, _, rfl⟩ (fun h => by cases h)
  · exact TyOK.of (d := (.struct (Tryd.prog.fieldsOf 57))) (by kernel_rfl) (by kernel_rfl) rfl ⟨_, rfl, by kernel_rfl⟩ (fun _ => ⟨by kernel_rfl, by kernel_rfl, by kernel_rfl, by kernel_rfl⟩)
  · exact TyOK.of (d := (.struct (Tryd.prog.fieldsOf 58))) (by kernel_rfl) (by kernel_rfl) rfl ⟨_, rfl, by kernel_rfl⟩ (fun _ => ⟨by kernel_rfl, by kernel_rfl, by kernel_rfl, by kernel_rfl⟩)
  · exact TyOK.of (d := (.func #[41, 3] #[58, 4] false)) (by kernel_rfl) (by kernel_rfl) rfl ⟨_, _, _, rfl⟩ (fun h => by cases h)
  · exact TyOK.of (d := (.func #[41, 3, 3] #[41, 23] false)) (by kernel_rfl) (by kernel_rfl) rfl ⟨_, _, _, rfl⟩ (fun h => by cases h)
  · exact TyOK.of (d := (.func #[9, 3, 3] #[3, 4] false)) (by kernel_rfl) (by kernel_rfl) rfl ⟨_, _, _, rfl⟩ (fun h => by cases h)
  · exact TyOK.of (d := (.func #[9] #[35, 4] false)) (by kernel_rfl) (by kernel_rfl) rfl ⟨_, _, _, rfl⟩ (fun h => by cases h)
  · exact TyOK.of (d := (.func #[37] #[9, 3] false)) (by kernel_rfl) (by kernel_rfl) rfl ⟨_, _, _, rfl⟩ (fun h => by cases h)
  · exact TyOK.of (d := (.func #[9, 9, 3, 3] #[29] false)) (by kernel_rfl) (by kernel_rfl) rfl ⟨_, _, _, rfl⟩ (fun h => by cases h)
  · exact TyOK.of (d := (.func #[3] #[9] false)) (by kernel_rfl) (by kernel_rfl) rfl ⟨_, _, _, rfl⟩ (fun h => by cases h)
  · exact TyOK.of (d := (.func #[9, 71] #[29] false)) (by kernel_rfl) (by kernel_rfl) rfl ⟨_, _, _, rfl⟩ (fun h => by cases h)
  · exact TyOK.of (d := (.func #[21] #[4] false)) (by kernel_rfl) (by kernel_rfl) rfl ⟨_, _, _, rfl⟩ (fun h => by cases h)
  · exact TyOK.of (d := (.func #[35] #[9] false)) (by kernel_rfl) (by kernel_rfl) rfl ⟨_, _, _, rfl⟩ (fun h => by cases h)
  · exact TyOK.of (d := (.func #[29, 9] #[9] false)) (by kernel_rfl) (by kernel_rfl) rfl ⟨_, _, _, rfl⟩ (fun h => by cases h)
  · exact TyOK.of (d := (.func #[3] #[4] false)) (by kernel_rfl) (by kernel_rfl) rfl ⟨_, _, _, rfl⟩ (fun h => by cases h)
  · exact TyOK.of (d := (.func #[41, 3] #[3] false)) (by kernel_rfl) (by kernel_rfl) rfl ⟨_, _, _, rfl⟩ (fun h => by cases h)
  · exact TyOK.of (d := (.func #[41] #[41] false)) (by kernel_rfl) (by kernel_rfl) rfl ⟨_, _, _, rfl⟩ (fun h => by cases h)
  · exact TyOK.of (d := (.func #[3, 3, 3] #[4] false)) (by kernel_rfl) (by kernel_rfl) rfl ⟨_, _, _, rfl⟩ (fun h => by cases h)
  · exact TyOK.of (d := (.array 3 9)) (by kernel_rfl) (by kernel_rfl) rfl rfl (fun h => by cases h)
  · exact TyOK.of (d := (.func #[9, 3] #[29] false)) (by kernel_rfl) (by kernel_rfl) rfl ⟨_, _, _, rfl⟩ (fun h => by cases h)
  · exact TyOK.of (d := (.func #[9, 9] #[3] false)) (by kernel_rfl) (by kernel_rfl) rfl ⟨_, _, _, rfl⟩ (fun h => by cases h)
  · exact TyOK.of (d := (.func #[9, 5] #[3] false)) (by kernel_rfl) (by kernel_rfl) rfl ⟨_, _, _, rfl⟩ (fun h => by cases h)
  · exact TyOK.of (d := (.int .u64)) (by kernel_rfl) (by kernel_rfl) rfl rfl (fun h => by cases h)
  · exact TyOK.of (d := (.func #[5] #[4] false)) (by kernel_rfl) (by kernel_rfl) rfl ⟨_, _, _, rfl⟩ (fun h => by cases h)
  · exact TyOK.of (d := (.slice 86)) (by kernel_rfl) (by kernel_rfl) rfl rfl (fun h => by cases h)
  · exact TyOK.of (d := (.struct (Tryd.prog.fieldsOf 85))) (by kernel_rfl) (by kernel_rfl) rfl ⟨_, rfl, by kernel_rfl⟩ (fun _ => ⟨by kernel_rfl, by kernel_rfl, by kernel_rfl, by kernel_rfl⟩)
  · exact TyOK.of (d := (.struct (Tryd.prog.fieldsOf 86))) (by kernel_rfl) (by kernel_rfl) rfl ⟨_, rfl, by kernel_rfl⟩ (fun _ => ⟨by kernel_rfl, by kernel_rfl, by kernel_rfl, by kernel_rfl⟩)
  · exact TyOK.of (d := (.func #[35, 3] #[9] false)) (by kernel_rfl) (by kernel_rfl) rfl ⟨_, _, _, rfl⟩ (fun h => by cases h)
  · exact TyOK.of (d := (.func #[9, 3] #[9] false)) (by kernel_rfl) (by kernel_rfl) rfl ⟨_, _, _, rfl⟩ (fun h => by cases h)
  · exact TyOK.of (d := (.pointer 92)) (by kernel_rfl) (by kernel_rfl) rfl rfl (fun h => by cases h)
  · exact TyOK.of (d := (.slice 5)) (by kernel_rfl) (by kernel_rfl) rfl rfl (fun h => by cases h)
  · exact TyOK.of (d := (.struct (Tryd.prog.fieldsOf 91))) (by kernel_rfl) (by kernel_rfl) rfl ⟨_, rfl, by kernel_rfl⟩ (fun h => by cases h)
  · exact TyOK.of (d := (.struct (Tryd.prog.fieldsOf 92))) (by kernel_rfl) (by kernel_rfl) rfl ⟨_, rfl, by kernel_rfl⟩ (fun h => by cases h)
  · exact TyOK.of (d := (.func #[3] #[] false)) (by kernel_rfl) (by kernel_rfl) rfl ⟨_, _, _, rfl⟩ (fun h => by cases h)
  · exact TyOK.of (d := (.interface #[("Error", 98)])) (by kernel_rfl) (by kernel_rfl) rfl ⟨_, rfl⟩ (fun h => by cases h)
  · exact TyOK.of (d := (.interface #[("Error", 98)])) (by kernel_rfl) (by kernel_rfl) rfl ⟨_, rfl⟩ (fun h => by cases h)
  · exact TyOK.of (d := (.func #[9] #[3, 95] false)) (by kernel_rfl) (by kernel_rfl) rfl ⟨_, _, _, rfl⟩ (fun h => by cases h)
  · exact TyOK.of (d := (.func #[] #[9] false)) (by kernel_rfl) (by kernel_rfl) rfl ⟨_, _, _, rfl⟩ (fun h => by cases h)
  · exact TyOK.of (d := (.func #[41, 100] #[3] false)) (by kernel_rfl) (by kernel_rfl) rfl ⟨_, _, _, rfl⟩ (fun h => by cases h)
  · exact TyOK.of (d := (.func #[58] #[4] false)) (by kernel_rfl) (by kernel_rfl) rfl ⟨_, _, _, rfl⟩ (fun h => by cases h)
  · exact TyOK.of (d := (.func #[9] #[3] false)) (by kernel_rfl) (by kernel_rfl) rfl ⟨_, _, _, rfl⟩ (fun h => by cases h)
  · exact TyOK.of (d := (.func #[9] #[21, 3] false)) (by kernel_rfl) (by kernel_rfl) rfl ⟨_, _, _, rfl⟩ (fun h => by cases h)
  · exact TyOK.of (d := (.func #[82, 82] #[82, 82] false)) (by kernel_rfl) (by kernel_rfl) rfl ⟨_, _, _, rfl⟩ (fun h => by cases h)
  · exact TyOK.of (d := (.func #[9, 9] #[4] false)) (by kernel_rfl) (by kernel_rfl) rfl ⟨_, _, _, rfl⟩ (fun h => by cases h)
  · exact TyOK.of (d := (.func #[] #[3] false)) (by kernel_rfl) (by kernel_rfl) rfl ⟨_, _, _, rfl⟩ (fun h => by cases h)
  · exact TyOK.of (d := (.pointer 5)) (by kernel_rfl) (by kernel_rfl) rfl rfl (fun h => by cases h)
  · exact TyOK.of (d := (.func #[3] #[3] false)) (by kernel_rfl) (by kernel_rfl) rfl ⟨_, _, _, rfl⟩ (fun h => by cases h)
  · exact TyOK.of (d := (.func #[2, 3] #[9] false)) (by kernel_rfl) (by kernel_rfl) rfl ⟨_, _, _, rfl⟩ (fun h => by cases h)
  · exact TyOK.of (d := (.array 24 5)) (by kernel_rfl) (by kernel_rfl) rfl rfl (fun h => by cases h)
  · exact TyOK.of (d := (.func #[35] #[3] false)) (by kernel_rfl) (by kernel_rfl) rfl ⟨_, _, _, rfl⟩ (fun h => by cases h)
  · exact TyOK.of (d := (.func #[90, 35] #[] false)) (by kernel_rfl) (by kernel_rfl) rfl ⟨_, _, _, rfl⟩ (fun h => by cases h)
  · exact TyOK.of (d := (.func #[90, 35, 3, 4, 4] #[90, 9] false)) (by kernel_rfl) (by kernel_rfl) rfl ⟨_, _, _, rfl⟩ (fun h => by cases h)
  · exact TyOK.of (d := (.int .u32)) (by kernel_rfl) (by kernel_rfl) rfl rfl (fun h => by cases h)
  · exact TyOK.of (d := (.func #[116, 116] #[116, 116] false)) (by kernel_rfl) (by kernel_rfl) rfl ⟨_, _, _, rfl⟩ (fun h => by cases h)
  · exact TyOK.of (d := (.func #[35, 35] #[35, 35] false)) (by kernel_rfl) (by kernel_rfl) rfl ⟨_, _, _, rfl⟩ (fun h => by cases h)
  · exact TyOK.of (d := (.func #[3] #[90] false)) (by kernel_rfl) (by kernel_rfl) rfl ⟨_, _, _, rfl⟩ (fun h => by cases h)
  · exact TyOK.of (d := (.array 256 5)) (by kernel_rfl) (by kernel_rfl) rfl rfl (fun h => by cases h)
  · exact TyOK.of (d := (.struct (Tryd.prog.fieldsOf 125))) (by kernel_rfl) (by kernel_rfl) rfl ⟨_, rfl, by kernel_rfl⟩ (fun _ => ⟨by kernel_rfl, by kernel_rfl, by kernel_rfl, by kernel_rfl⟩)
  · exact TyOK.of (d := (.struct (Tryd.prog.fieldsOf 126))) (by kernel_rfl) (by kernel_rfl) rfl ⟨_, rfl, by kernel_rfl⟩ (fun _ => ⟨by kernel_rfl, by kernel_rfl, by kernel_rfl, by kernel_rfl⟩)
  · exact TyOK.of (d := (.array 16 126)) (by kernel_rfl) (by kernel_rfl) rfl rfl (fun h => by cases h)
  · exact TyOK.of (d := (.func #[9] #[116, 116] false)) (by kernel_rfl) (by kernel_rfl) rfl ⟨_, _, _, rfl⟩ (fun h => by cases h)
  · exact TyOK.of (d := (.func #[4] #[3] false)) (by kernel_rfl) (by kernel_rfl) rfl ⟨_, _, _, rfl⟩ (fun h => by cases h)
  · exact TyOK.of (d := (.array 20 35)) (by kernel_rfl) (by kernel_rfl) rfl rfl (fun h => by cases h)
  · exact TyOK.of (d := (.array 65 5)) (by kernel_rfl) (by kernel_rfl) rfl rfl (fun h => by cases h)
  · exact TyOK.of (d := (.func #[82] #[3] false)) (by kernel_rfl) (by kernel_rfl) rfl ⟨_, _, _, rfl⟩ (fun h => by cases h)
  · exact TyOK.of (d := (.func #[116] #[3] false)) (by kernel_rfl) (by kernel_rfl) rfl ⟨_, _, _, rfl⟩ (fun h => by cases h)
  · exact TyOK.of (d := (.array 32 5)) (by kernel_rfl) (by kernel_rfl) rfl rfl (fun h => by cases h)
  · exact TyOK.of (d := (.array 64 5)) (by kernel_rfl) (by kernel_rfl) rfl rfl (fun h => by cases h)
end Go.Proofs.YtlcgjeafmbbipaaDoor
