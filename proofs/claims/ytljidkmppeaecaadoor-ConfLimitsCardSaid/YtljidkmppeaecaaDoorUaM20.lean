/- The library of this claim and its walks, part 20, joined out of smaller texts. No statement stands in it. -/
import Derived.Test.YtljidkmppeaecaaDoorUaM17
import Derived.Test.YtljidkmppeaecaaDoorProg
/- The types of this program, as the evaluator needs them; what its package variables hold. -/
namespace Go.Proofs.YtljidkmppeaecaaDoor
open Go Go.Proofs Go.Ua
set_option linter.unusedVariables false
instance : Globs Tryd.prog := ⟨fun b p => (b = 1 ∧ p = fun cs => ∃ m, cs[0]? = some (Value.int .i64 m)) ∨ (b = 0 ∧ p = fun cs => cs = [.iface 112 (.agg #[.pointer (some ⟨4, 28, none⟩)])])⟩
theorem G_maxlen : Globs.G Tryd.prog 1 (fun cs => ∃ m, cs[0]? = some (Value.int .i64 m)) := .inl ⟨rfl, rfl⟩
theorem G_err : Globs.G Tryd.prog 0 (fun cs => cs = [.iface 112 (.agg #[.pointer (some ⟨4, 28, none⟩)])]) := .inr ⟨rfl, rfl⟩
/-- The types that the functions of this seat name. -/
def tab : Tab := [
  (1, { k := .func, size := 1, bytes := 8, zero := [.fn0] }),
  (2, { k := .int .i64, size := 1, bytes := 8, zero := [.int .i64 0] }),
  (3, { k := .int .i64, size := 1, bytes := 8, zero := [.int .i64 0] }),
  (4, { k := .bool, size := 1, bytes := 1, zero := [.bool false] }),
  (5, { k := .int .u8, size := 1, bytes := 1, zero := [.int .u8 0] }),
  (9, { k := .string, size := 1, bytes := 16, zero := [.str []] }),
  (20, { k := .iface, size := 1, bytes := 16, zero := [.if0] }),
  (21, { k := .int .i32, size := 1, bytes := 4, zero := [.int .i32 0] }),
  (22, { k := .func, size := 1, bytes := 8, zero := [.fn0] }),
  (23, { k := .slice 34, size := 1, bytes := 24, zero := [.sl0] }),
  (24, { k := .slice 37, size := 1, bytes := 24, zero := [.sl0] }),
  (25, { k := .struct [(0, 3), (1, 3), (2, 3), (3, 3), (4, 23), (5, 24)], size := 6, bytes := 80, zero := [.int .i64 0, .int .i64 0, .int .i64 0, .int .i64 0, .sl0, .sl0] }),
  (26, { k := .struct [(0, 3), (1, 3), (2, 3), (3, 3), (4, 23), (5, 24)], size := 6, bytes := 80, zero := [.int .i64 0, .int .i64 0, .int .i64 0, .int .i64 0, .sl0, .sl0] }),
  (27, { k := .iface, size := 1, bytes := 16, zero := [.if0] }),
  (28, { k := .iface, size := 1, bytes := 16, zero := [.if0] }),
  (30, { k := .func, size := 1, bytes := 8, zero := [.fn0] }),
  (31, { k := .func, size := 1, bytes := 8, zero := [.fn0] }),
  (32, { k := .func, size := 1, bytes := 8, zero := [.fn0] }),
  (33, { k := .struct [(0, 9), (1, 3), (2, 3), (3, 3), (4, 3), (5, 3), (6, 3), (7, 3), (8, 3), (9, 3)], size := 10, bytes := 88, zero := [.str [], .int .i64 0, .int .i64 0, .int .i64 0, .int .i64 0, .int .i64 0, .int .i64 0, .int .i64 0, .int .i64 0, .int .i64 0], eq := true }),
  (34, { k := .struct [(0, 9), (1, 3), (2, 3), (3, 3), (4, 3), (5, 3), (6, 3), (7, 3), (8, 3), (9, 3)], size := 10, bytes := 88, zero := [.str [], .int .i64 0, .int .i64 0, .int .i64 0, .int .i64 0, .int .i64 0, .int .i64 0, .int .i64 0, .int .i64 0, .int .i64 0], eq := true }),
  (35, { k := .slice 40, size := 1, bytes := 24, zero := [.sl0] }),
  (36, { k := .struct [(0, 9), (1, 9), (2, 3), (3, 3), (4, 35)], size := 5, bytes := 72, zero := [.str [], .str [], .int .i64 0, .int .i64 0, .sl0] }),
  (37, { k := .struct [(0, 9), (1, 9), (2, 3), (3, 3), (4, 35)], size := 5, bytes := 72, zero := [.str [], .str [], .int .i64 0, .int .i64 0, .sl0] }),
  (38, { k := .slice 9, size := 1, bytes := 24, zero := [.sl0] }),
  (39, { k := .struct [(0, 38), (1, 38), (2, 38), (3, 38), (4, 38)], size := 5, bytes := 120, zero := [.sl0, .sl0, .sl0, .sl0, .sl0] }),
  (40, { k := .struct [(0, 38), (1, 38), (2, 38), (3, 38), (4, 38)], size := 5, bytes := 120, zero := [.sl0, .sl0, .sl0, .sl0, .sl0] }),
  (41, { k := .slice 38, size := 1, bytes := 24, zero := [.sl0] }),
  (42, { k := .func, size := 1, bytes := 8, zero := [.fn0] }),
  (44, { k := .func, size := 1, bytes := 8, zero := [.fn0] }),
  (45, { k := .int .i64, size := 1, bytes := 8, zero := [.int .i64 0] }),
  (46, { k := .func, size := 1, bytes := 8, zero := [.fn0] }),
  (47, { k := .func, size := 1, bytes := 8, zero := [.fn0] }),
  (48, { k := .slice 5, size := 1, bytes := 24, zero := [.sl0] }),
  (49, { k := .func, size := 1, bytes := 8, zero := [.fn0] }),
  (50, { k := .slice 3, size := 1, bytes := 24, zero := [.sl0] }),
  (51, { k := .func, size := 1, bytes := 8, zero := [.fn0] }),
  (52, { k := .func, size := 1, bytes := 8, zero := [.fn0] }),
  (53, { k := .int .u64, size := 1, bytes := 8, zero := [.int .u64 0] }),
  (54, { k := .func, size := 1, bytes := 8, zero := [.fn0] }),
  (55, { k := .func, size := 1, bytes := 8, zero := [.fn0] }),
  (56, { k := .func, size := 1, bytes := 8, zero := [.fn0] }),
  (57, { k := .pointer 59, size := 1, bytes := 8, zero := [.ptr0] }),
  (58, { k := .struct [(0, 26), (6, 38), (7, 3), (8, 45)], size := 9, bytes := 120, zero := [.int .i64 0, .int .i64 0, .int .i64 0, .int .i64 0, .sl0, .sl0, .sl0, .int .i64 0, .int .i64 0] }),
  (59, { k := .struct [(0, 26), (6, 38), (7, 3), (8, 45)], size := 9, bytes := 120, zero := [.int .i64 0, .int .i64 0, .int .i64 0, .int .i64 0, .sl0, .sl0, .sl0, .int .i64 0, .int .i64 0] }),
  (60, { k := .func, size := 1, bytes := 8, zero := [.fn0] }),
  (61, { k := .func, size := 1, bytes := 8, zero := [.fn0] }),
  (62, { k := .func, size := 1, bytes := 8, zero := [.fn0] }),
  (64, { k := .func, size := 1, bytes := 8, zero := [.fn0] }),
  (65, { k := .func, size := 1, bytes := 8, zero := [.fn0] }),
  (66, { k := .pointer 45, size := 1, bytes := 8, zero := [.ptr0] }),
  (67, { k := .struct [(0, 3), (1, 9), (2, 28)], size := 3, bytes := 40, zero := [.int .i64 0, .str [], .if0] }),
  (68, { k := .struct [(0, 3), (1, 9), (2, 28)], size := 3, bytes := 40, zero := [.int .i64 0, .str [], .if0] }),
  (69, { k := .pointer 68, size := 1, bytes := 8, zero := [.ptr0] }),
  (70, { k := .func, size := 1, bytes := 8, zero := [.fn0] }),
  (71, { k := .func, size := 1, bytes := 8, zero := [.fn0] }),
  (72, { k := .func, size := 1, bytes := 8, zero := [.fn0] }),
  (73, { k := .func, size := 1, bytes := 8, zero := [.fn0] }),
  (74, { k := .func, size := 1, bytes := 8, zero := [.fn0] }),
  (75, { k := .pointer 3, size := 1, bytes := 8, zero := [.ptr0] }),
  (76, { k := .func, size := 1, bytes := 8, zero := [.fn0] }),
  (77, { k := .func, size := 1, bytes := 8, zero := [.fn0] }),
  (78, { k := .func, size := 1, bytes := 8, zero := [.fn0] }),
  (80, { k := .func, size := 1, bytes := 8, zero := [.fn0] }),
  (81, { k := .array 2 3, size := 2, bytes := 16, zero := [.int .i64 0, .int .i64 0] }),
  (82, { k := .slice 81, size := 1, bytes := 24, zero := [.sl0] }),
  (84, { k := .int .u64, size := 1, bytes := 8, zero := [.int .u64 0] }),
  (86, { k := .struct [(0, 17), (1, 83), (2, 84)], size := 3, bytes := 24, zero := [.ptr0, .ptr0, .int .u64 0] }),
  (87, { k := .func, size := 1, bytes := 8, zero := [.fn0] }),
  (89, { k := .iface, size := 1, bytes := 16, zero := [.if0] }),
  (90, { k := .func, size := 1, bytes := 8, zero := [.fn0] }),
  (93, { k := .func, size := 1, bytes := 8, zero := [.fn0] }),
  (94, { k := .func, size := 1, bytes := 8, zero := [.fn0] }),
  (95, { k := .func, size := 1, bytes := 8, zero := [.fn0] }),
  (96, { k := .slice 98, size := 1, bytes := 24, zero := [.sl0] }),
  (97, { k := .struct [(0, 3), (1, 3)], size := 2, bytes := 16, zero := [.int .i64 0, .int .i64 0], eq := true }),
  (98, { k := .struct [(0, 3), (1, 3)], size := 2, bytes := 16, zero := [.int .i64 0, .int .i64 0], eq := true }),
  (100, { k := .func, size := 1, bytes := 8, zero := [.fn0] }),
  (101, { k := .func, size := 1, bytes := 8, zero := [.fn0] }),
  (102, { k := .func, size := 1, bytes := 8, zero := [.fn0] }),
  (103, { k := .func, size := 1, bytes := 8, zero := [.fn0] }),
  (104, { k := .func, size := 1, bytes := 8, zero := [.fn0] }),
  (105, { k := .pointer 37, size := 1, bytes := 8, zero := [.ptr0] }),
  (106, { k := .array 5 3, size := 5, bytes := 40, zero := [.int .i64 0, .int .i64 0, .int .i64 0, .int .i64 0, .int .i64 0] }),
  (107, { k := .array 3 9, size := 3, bytes := 48, zero := [.str [], .str [], .str []] }),
  (108, { k := .array 5 38, size := 5, bytes := 120, zero := [.sl0, .sl0, .sl0, .sl0, .sl0] }),
  (110, { k := .func, size := 1, bytes := 8, zero := [.fn0] }),
  (112, { k := .struct [(0, 17)], size := 1, bytes := 8, zero := [.ptr0] }),
  (114, { k := .func, size := 1, bytes := 8, zero := [.fn0] }),
  (115, { k := .func, size := 1, bytes := 8, zero := [.fn0] }),
  (116, { k := .func, size := 1, bytes := 8, zero := [.fn0] }),
  (117, { k := .iface, size := 1, bytes := 16, zero := [.if0] }),
  (119, { k := .func, size := 1, bytes := 8, zero := [.fn0] }),
  (120, { k := .iface, size := 1, bytes := 16, zero := [.if0] }),
  (121, { k := .func, size := 1, bytes := 8, zero := [.fn0] }),
  (122, { k := .iface, size := 1, bytes := 16, zero := [.if0] }),
  (123, { k := .slice 28, size := 1, bytes := 24, zero := [.sl0] }),
  (124, { k := .func, size := 1, bytes := 8, zero := [.fn0] }),
  (125, { k := .func, size := 1, bytes := 8, zero := [.fn0] }),
  (126, { k := .func, size := 1, bytes := 8, zero := [.fn0] }),
  (127, { k := .func, size := 1, bytes := 8, zero := [.fn0] }),
  (128, { k := .func, size := 1, bytes := 8, zero := [.fn0] }),
  (129, { k := .func, size := 1, bytes := 8, zero := [.fn0] }),
  (131, { k := .func, size := 1, bytes := 8, zero := [.fn0] }),
  (132, { k := .func, size := 1, bytes := 8, zero := [.fn0] }),
  (133, { k := .func, size := 1, bytes := 8, zero := [.fn0] }),
  (134, { k := .func, size := 1, bytes := 8, zero := [.fn0] }),
  (135, { k := .array 256 5, size := 256, bytes := 256, zero := [.int .u8 0, .int .u8 0, .int .u8 0, .int .u8 0, .int .u8 0, .int .u8 0, .int .u8 0, .int .u8 0, .int .u8 0, .int .u8 0, .int .u8 0, .int .u8 0, .int .u8 0, .int .u8 0, .int .u8 0, .int .u8 0, .int .u8 0, .int .u8 0, .int .u8 0, .int .u8 0, .int .u8 0, .int .u8 0, .int .u8 0, .int .u8 0, .int .u8 0, .int .u8 0, .int .u8 0, .int .u8 0, .int .u8 0, .int .u8 0, .int .u8 0, .int .u8 0, .int .u8 0, .int .u8 0, .int .u8 0, .int .u8 0, .int .u8 0, .int .u8 0, .int .u8 0, .int .u8 0, .int .u8 0, .int .u8 0, .int .u8 0, .int .u8 0, .int .u8 0, .int .u8 0, .int .u8 0, .int .u8 0, .int .u8 0, .int .u8 0, .int .u8 0, .int .u8 0, .int .u8 0, .int .u8 0, .int .u8 0, .int .u8 0, .int .u8 0, .int .u8 0, .int .u8 0, .int .u8 0, .int .u8 0, .int .u8 0, .int .u8 0, .int .u8 0, .int .u8 0, .int .u8 0, .int .u8 0, .int .u8 0, .int .u8 0, .int .u8 0, .int .u8 0, .int .u8 0, .int .u8 0, .int .u8 0, .int .u8 0, .int .u8 0, .int .u8 0, .int .u8 0, .int .u8 0, .int .u8 0, .int .u8 0, .int .u8 0, .int .u8 0, .int .u8 0, .int .u8 0, .int .u8 0, .int .u8 0, .int .u8 0, .int .u8 0, .int .u8 0, .int .u8 0, .int .u8 0, .int .u8 0, .int .u8 0, .int .u8 0, .int .u8 0, .int .u8 0, .int .u8 0, .int .u8 0, .int .u8 0, .int .u8 0, .int .u8 0, .int .u8 0, .int .u8 0, .int .u8 0, .int .u8 0, .int .u8 0, .int .u8 0, .int .u8 0, .int .u8 0, .int .u8 0, .int .u8 0, .int .u8 0, .int .u8 0, .int .u8 0, .int .u8 0, .int .u8 0, .int .u8 0, .int .u8 0, .int .u8 0, .int .u8 0, .int .u8 0, .int .u8 0, .int .u8 0, .int .u8 0, .int .u8 0, .int .u8 0, .int .u8 0, .int .u8 0, .int .u8 0, .int .u8 0, .int .u8 0, .int .u8 0, .int .u8 0, .int .u8 0, .int .u8 0, .int .u8 0, .int .u8 0, .int .u8 0, .int .u8 0, .int .u8 0, .int .u8 0, .int .u8 0, .int .u8 0, .int .u8 0, .int .u8 0, .int .u8 0, .int .u8 0, .int .u8 0, .int .u8 0, .int .u8 0, .int .u8 0, .int .u8 0, .int .u8 0, .int .u8 0, .int .u8 0, .int .u8 0, .int .u8 0, .int .u8 0, .int .u8 0, .int .u8 0, .int .u8 0, .int .u8 0, .int .u8 0, .int .u8 0, .int .u8 0, .int .u8 0, .int .u8 0, .int .u8 0, .int .u8 0, .int .u8 0, .int .u8 0, .int .u8 0, .int .u8 0, .int .u8 0, .int .u8 0, .int .u8 0, .int .u8 0, .int .u8 0, .int .u8 0, .int .u8 0, .int .u8 0, .int .u8 0, .int .u8 0, .int .u8 0, .int .u8 0, .int .u8 0, .int .u8 0, .int .u8 0, .int .u8 0, .int .u8 0, .int .u8 0, .int .u8 0, .int .u8 0, .int .u8 0, .int .u8 0, .int .u8 0, .int .u8 0, .int .u8 0, .int .u8 0, .int .u8 0, .int .u8 0, .int .u8 0, .int .u8 0, .int .u8 0, .int .u8 0, .int .u8 0, .int .u8 0, .int .u8 0, .int .u8 0, .int .u8 0, .int .u8 0, .int .u8 0, .int .u8 0, .int .u8 0, .int .u8 0, .int .u8 0, .int .u8 0, .int .u8 0, .int .u8 0, .int .u8 0, .int .u8 0, .int .u8 0, .int .u8 0, .int .u8 0, .int .u8 0, .int .u8 0, .int .u8 0, .int .u8 0, .int .u8 0, .int .u8 0, .int .u8 0, .int .u8 0, .int .u8 0, .int .u8 0, .int .u8 0, .int .u8 0, .int .u8 0, .int .u8 0, .int .u8 0, .int .u8 0, .int .u8 0, .int .u8 0, .int .u8 0, .int .u8 0, .int .u8 0, .int .u8 0, .int .u8 0, .int .u8 0, .int .u8 0, .int .u8 0, .int .u8 0, .int .u8 0, .int .u8 0, .int .u8 0, .int .u8 0] }),
  (136, { k := .struct [(0, 5), (1, 5)], size := 2, bytes := 2, zero := [.int .u8 0, .int .u8 0], eq := true }),
  (137, { k := .struct [(0, 5), (1, 5)], size := 2, bytes := 2, zero := [.int .u8 0, .int .u8 0], eq := true }),
  (138, { k := .array 16 137, size := 32, bytes := 32, zero := [.int .u8 0, .int .u8 0, .int .u8 0, .int .u8 0, .int .u8 0, .int .u8 0, .int .u8 0, .int .u8 0, .int .u8 0, .int .u8 0, .int .u8 0, .int .u8 0, .int .u8 0, .int .u8 0, .int .u8 0, .int .u8 0, .int .u8 0, .int .u8 0, .int .u8 0, .int .u8 0, .int .u8 0, .int .u8 0, .int .u8 0, .int .u8 0, .int .u8 0, .int .u8 0, .int .u8 0, .int .u8 0, .int .u8 0, .int .u8 0, .int .u8 0, .int .u8 0] }),
  (139, { k := .int .u32, size := 1, bytes := 4, zero := [.int .u32 0] }),
  (141, { k := .func, size := 1, bytes := 8, zero := [.fn0] }),
  (142, { k := .func, size := 1, bytes := 8, zero := [.fn0] }),
  (151, { k := .pointer 5, size := 1, bytes := 8, zero := [.ptr0] }),
  (162, { k := .int .u16, size := 1, bytes := 2, zero := [.int .u16 0] }),
  (169, { k := .pointer 28, size := 1, bytes := 8, zero := [.ptr0] })]
set_option maxRecDepth 100000 in
theorem tabOK : TabOK Tryd.prog tab := by
  refine ⟨?_, ?_, ?_, ?_, ?_, ?_, ?_, ?_, ?_, ?_, ?_, ?_, ?_, ?_, ?_, ?_, ?_, ?_, ?_, ?_, ?_, ?_, ?_, ?_, ?_, ?_, ?_, ?_, ?_, ?_, ?_, ?_, ?_, ?_, ?_, ?_, ?_, ?_, ?_, ?_, ?_, ?_, ?_, ?_, ?_, ?_, ?_, ?_, ?_, ?_, ?_, ?_, ?_, ?_, ?_, ?_, ?_, ?_, ?_, ?_, ?_, ?_, ?_, ?_, ?_, ?_, ?_, ?_, ?_, ?_, ?_, ?_, ?_, ?_, ?_, ?_, ?_, ?_, ?_, ?_, ?_, ?_, ?_, ?_, ?_, ?_, ?_, ?_, ?_, ?_, ?_, ?_, ?_, ?_, ?_, ?_, ?_, ?_, ?_, ?_, ?_, ?_, ?_, ?_, ?_, ?_, ?_, ?_, ?_, ?_, ?_, ?_, ?_, ?_, ?_, ?_, trivial⟩
  · exact TyOK.of (d := (.func #[] #[] false)) (by kernel_rfl) (by kernel_rfl) rfl ⟨_, _, _, rfl⟩ (fun h => by cases h)
  · exact TyOK.of (d := (.int .i64)) (by kernel_rfl) (by kernel_rfl) rfl rfl (fun h => by cases h)
  · exact TyOK.of (d := (.int .i64)) (by kernel_rfl) (by kernel_rfl) rfl rfl (fun h => by cases h)
  · exact TyOK.of (d := .bool) (by kernel_rfl) (by kernel_rfl) rfl rfl (fun h => by cases h)
  · exact TyOK.of (d := (.int .u8)) (by kernel_rfl) (by kernel_rfl) rfl rfl (fun h => by cases h)
  · exact TyOK.of (d := .string) (by kernel_rfl) (by kernel_rfl) rfl rfl (fun h => by cases h)
  · exact TyOK.of (d := (.interface #[])) (by kernel_rfl) (by kernel_rfl) rfl ⟨_, rfl⟩ (fun h => by cases h)
  · exact TyOK.of (d := (.int .i32)) (by kernel_rfl) (by kernel_rfl) rfl rfl (fun h => by cases h)
  · exact TyOK.of (d := (.func #[] #[4] false)) (by kernel_rfl) (by kernel_rfl) rfl ⟨_, _, _, rfl⟩ (fun h => by cases h)
  · exact TyOK.of (d := (.slice 34)) (by kernel_rfl) (by kernel_rfl) rfl rfl (fun h => by cases h)
  · exact TyOK.of (d := (.slice 37)) (by kernel_rfl) (by kernel_rfl) rfl rfl (fun h => by cases h)
  · exact TyOK.of (d := (.struct (Tryd.prog.fieldsOf 25))) (by kernel_rfl) (by kernel_rfl) rfl ⟨_, rfl, by kernel_rfl⟩ (fun h => by cases h)
  · exact TyOK.of (d := (.struct (Tryd.prog.fieldsOf 26))) (by kernel_rfl) (by kernel_rfl) rfl ⟨_, rfl, by kernel_rfl⟩ (fun h => by cases h)
  · exact TyOK.of (d := (.interface #[("Error", 101)])) (by kernel_rfl) (by kernel_rfl) rfl ⟨_, rfl⟩ (fun h => by cases h)
  · exact TyOK.of (d := (.interface #[("Error", 101)])) (by kernel_rfl) (by kernel_rfl) rfl ⟨_, rfl⟩ (fun h => by cases h)
  · exact TyOK.of (d := (.func #[9] #[26, 28] false)) (by kernel_rfl) (by kernel_rfl) rfl ⟨_, _, _, rfl⟩ (fun h => by cases h)
  · exact TyOK.of (d := (.func #[26, 26] #[4] false)) (by kernel_rfl) (by kernel_rfl) rfl ⟨_, _, _, rfl⟩ (fun h => by cases h)
  · exact TyOK.of (d := (.func #[26] #[26] false)) (by kernel_rfl) (by kernel_rfl) rfl ⟨_, _, _, rfl⟩ (fun h => by cases h)
  · exact TyOK.of (d := (.struct (Tryd.prog.fieldsOf 33))) (by kernel_rfl) (by kernel_rfl) rfl ⟨_, rfl, by kernel_rfl⟩ (fun _ => ⟨by kernel_rfl, by kernel_rfl, by kernel_rfl, by kernel_rfl⟩)
  · exact TyOK.of (d := (.struct (Tryd.prog.fieldsOf 34))) (by kernel_rfl) (by kernel_rfl) rfl ⟨_, rfl, by kernel_rfl⟩ (fun _ => ⟨by kernel_rfl, by kernel_rfl, by kernel_rfl, by kernel_rfl⟩)
  · exact TyOK.of (d := (.slice 40)) (by kernel_rfl) (by kernel_rfl) rfl rfl (fun h => by cases h)
  · exact TyOK.of (d := (.struct (Tryd.prog.fieldsOf 36))) (by kernel_rfl) (by kernel_rfl) rfl ⟨_, rfl, by kernel_rfl⟩ (fun h => by cases h)
  · exact TyOK.of (d := (.struct (Tryd.prog.fieldsOf 37))) (by kernel_rfl) (by kernel_rfl) rfl ⟨_, rfl, by kernel_rfl⟩ (fun h => by cases h)
  · exact TyOK.of (d := (.slice 9)) (by kernel_rfl) (by kernel_rfl) rfl rfl (fun h => by cases h)
  · exact TyOK.of (d := (.struct (Tryd.prog.fieldsOf 39))) (by kernel_rfl) (by kernel_rfl) rfl ⟨_, rfl, by kernel_rfl⟩ (fun h => by cases h)
  · exact TyOK.of (d := (.struct (Tryd.prog.fieldsOf 40))) (by kernel_rfl) (by kernel_rfl) rfl ⟨_, rfl, by kernel_rfl⟩ (fun h => by cases h)
  · exact TyOK.of (d := (.slice 38)) (by kernel_rfl) (by kernel_rfl) rfl rfl (fun h => by cases h)
  · exact TyOK.of (d := (.func #[9] #[4] false)) (by kernel_rfl) (by kernel_rfl) rfl ⟨_, _, _, rfl⟩ (fun h => by cases h)
  · exact TyOK.of (d := (.func #[9] #[26, 3, 3] false)) (by kernel_rfl) (by kernel_rfl) rfl ⟨_, _, _, rfl⟩ (fun h => by cases h)
  · exact TyOK.of (d := (.int .i64)) (by kernel_rfl) (by kernel_rfl) rfl rfl (fun h => by cases h)
  · exact TyOK.of (d := (.func #[28] #[45] false)) (by kernel_rfl) (by kernel_rfl) rfl ⟨_, _, _, rfl⟩ (fun h => by cases h)
  · exact TyOK.of (d := (.func #[28] #[3] false)) (by kernel_rfl) (by kernel_rfl) rfl ⟨_, _, _, rfl⟩ (fun h => by cases h)
  · exact TyOK.of (d := (.slice 5)) (by kernel_rfl) (by kernel_rfl) rfl rfl (fun h => by cases h)
  · exact TyOK.of (d := (.func #[9] #[38] false)) (by kernel_rfl) (by kernel_rfl) rfl ⟨_, _, _, rfl⟩ (fun h => by cases h)
  · exact TyOK.of (d := (.slice 3)) (by kernel_rfl) (by kernel_rfl) rfl rfl (fun h => by cases h)
  · exact TyOK.of (d := (.func #[9, 48] #[4] false)) (by kernel_rfl) (by kernel_rfl) rfl ⟨_, _, _, rfl⟩ (fun h => by cases h)
  · exact TyOK.of (d := (.func #[9, 3] #[4] false)) (by kernel_rfl) (by kernel_rfl) rfl ⟨_, _, _, rfl⟩ (fun h => by cases h)
  · exact TyOK.of (d := (.int .u64)) (by kernel_rfl) (by kernel_rfl) rfl rfl (fun h => by cases h)
  · exact TyOK.of (d := (.func #[3] #[9] false)) (by kernel_rfl) (by kernel_rfl) rfl ⟨_, _, _, rfl⟩ (fun h => by cases h)
  · exact TyOK.of (d := (.func #[3] #[4] false)) (by kernel_rfl) (by kernel_rfl) rfl ⟨_, _, _, rfl⟩ (fun h => by cases h)
  · exact TyOK.of (d := (.func #[3, 28] #[28] false)) (by kernel_rfl) (by kernel_rfl) rfl ⟨_, _, _, rfl⟩ (fun h => by cases h)
  · exact TyOK.of (d := (.pointer 59)) (by kernel_rfl) (by kernel_rfl) rfl rfl (fun h => by cases h)
  · exact TyOK.of (d := (.struct (Tryd.prog.fieldsOf 58))) (by kernel_rfl) (by kernel_rfl) rfl ⟨_, rfl, by kernel_rfl⟩ (fun h => by cases h)
  · exact TyOK.of (d := (.struct (Tryd.prog.fieldsOf 59))) (by kernel_rfl) (by kernel_rfl) rfl ⟨_, rfl, by kernel_rfl⟩ (fun h => by cases h)
  · exact TyOK.of (d := (.func #[9, 9] #[4] false)) (by kernel_rfl) (by kernel_rfl) rfl ⟨_, _, _, rfl⟩ (fun h => by cases h)
  · exact TyOK.of (d := (.func #[35, 35] #[4] false)) (by kernel_rfl) (by kernel_rfl) rfl ⟨_, _, _, rfl⟩ (fun h => by cases h)
  · exact TyOK.of (d := (.func #[38] #[38] false)) (by kernel_rfl) (by kernel_rfl) rfl ⟨_, _, _, rfl⟩ (fun h => by cases h)
  · exact TyOK.of (d := (.func #[26, 38] #[26, 3] false)) (by kernel_rfl) (by kernel_rfl) rfl ⟨_, _, _, rfl⟩ (fun h => by cases h)
  · exact TyOK.of (d := (.func #[28, 20] #[4] false)) (by kernel_rfl) (by kernel_rfl) rfl ⟨_, _, _, rfl⟩ (fun h => by cases h)
  · exact TyOK.of (d := (.pointer 45)) (by kernel_rfl) (by kernel_rfl) rfl rfl (fun h => by cases h)
  · exact TyOK.of (d := (.struct (Tryd.prog.fieldsOf 67))) (by kernel_rfl) (by kernel_rfl) rfl ⟨_, rfl, by kernel_rfl⟩ (fun h => by cases h)
  · exact TyOK.of (d := (.struct (Tryd.prog.fieldsOf 68))) (by kernel_rfl) (by kernel_rfl) rfl ⟨_, rfl, by kernel_rfl⟩ (fun h => by cases h)
  · exact TyOK.of (d := (.pointer 68)) (by kernel_rfl) (by kernel_rfl) rfl rfl (fun h => by cases h)
  · exact TyOK.of (d := (.func #[9, 5] #[38] false)) (by kernel_rfl) (by kernel_rfl) rfl ⟨_, _, _, rfl⟩ (fun h => by cases h)
  · exact TyOK.of (d := (.func #[9, 9] #[38] false)) (by kernel_rfl) (by kernel_rfl) rfl ⟨_, _, _, rfl⟩ (fun h => by cases h)
  · exact TyOK.of (d := (.func #[9, 73] #[38] false)) (by kernel_rfl) (by kernel_rfl) rfl ⟨_, _, _, rfl⟩ (fun h => by cases h)
  · exact TyOK.of (d := (.func #[21] #[4] false)) (by kernel_rfl) (by kernel_rfl) rfl ⟨_, _, _, rfl⟩ (fun h => by cases h)
  · exact TyOK.of (d := (.func #[75, 3] #[] false)) (by kernel_rfl) (by kernel_rfl) rfl ⟨_, _, _, rfl⟩ (fun h => by cases h)
  · exact TyOK.of (d := (.pointer 3)) (by kernel_rfl) (by kernel_rfl) rfl rfl (fun h => by cases h)
  · exact TyOK.of (d := (.func #[3, 3] #[3] false)) (by kernel_rfl) (by kernel_rfl) rfl ⟨_, _, _, rfl⟩ (fun h => by cases h)
  · exact TyOK.of (d := (.func #[45] #[] false)) (by kernel_rfl) (by kernel_rfl) rfl ⟨_, _, _, rfl⟩ (fun h => by cases h)
  · exact TyOK.of (d := (.func #[38, 38] #[4] false)) (by kernel_rfl) (by kernel_rfl) rfl ⟨_, _, _, rfl⟩ (fun h => by cases h)
  · exact TyOK.of (d := (.func #[38, 3, 82] #[50, 3] false)) (by kernel_rfl) (by kernel_rfl) rfl ⟨_, _, _, rfl⟩ (fun h => by cases h)
  · exact TyOK.of (d := (.array 2 3)) (by kernel_rfl) (by kernel_rfl) rfl rfl (fun h => by cases h)
  · exact TyOK.of (d := (.slice 81)) (by kernel_rfl) (by kernel_rfl) rfl rfl (fun h => by cases h)
  · exact TyOK.of (d := (.int .u64)) (by kernel_rfl) (by kernel_rfl) rfl rfl (fun h => by cases h)
  · exact TyOK.of (d := (.struct (Tryd.prog.fieldsOf 86))) (by kernel_rfl) (by kernel_rfl) rfl ⟨_, rfl, by kernel_rfl⟩ (fun h => by cases h)
  · exact TyOK.of (d := (.func #[20] #[86] false)) (by kernel_rfl) (by kernel_rfl) rfl ⟨_, _, _, rfl⟩ (fun h => by cases h)
  · exact TyOK.of (d := (.interface #[("AssignableTo", 93), ("Comparable", 22), ("Elem", 90), ("Implements", 93), ("Kind", 92), ("Name", 101), ("PkgPath", 101), ("Size", 156), ("String", 101), ("internal/reflectlite.common", 148), ("internal/reflectlite.uncommon", 157)])) (by kernel_rfl) (by kernel_rfl) rfl ⟨_, rfl⟩ (fun h => by cases h)
  · exact TyOK.of (d := (.func #[] #[89] false)) (by kernel_rfl) (by kernel_rfl) rfl ⟨_, _, _, rfl⟩ (fun h => by cases h)
  · exact TyOK.of (d := (.func #[89] #[4] false)) (by kernel_rfl) (by kernel_rfl) rfl ⟨_, _, _, rfl⟩ (fun h => by cases h)
  · exact TyOK.of (d := (.func #[28, 20, 86, 89] #[4] false)) (by kernel_rfl) (by kernel_rfl) rfl ⟨_, _, _, rfl⟩ (fun h => by cases h)
  · exact TyOK.of (d := (.func #[9, 9, 3, 3] #[38] false)) (by kernel_rfl) (by kernel_rfl) rfl ⟨_, _, _, rfl⟩ (fun h => by cases h)
  · exact TyOK.of (d := (.slice 98)) (by kernel_rfl) (by kernel_rfl) rfl rfl (fun h => by cases h)
  · exact TyOK.of (d := (.struct (Tryd.prog.fieldsOf 97))) (by kernel_rfl) (by kernel_rfl) rfl ⟨_, rfl, by kernel_rfl⟩ (fun _ => ⟨by kernel_rfl, by kernel_rfl, by kernel_rfl, by kernel_rfl⟩)
  · exact TyOK.of (d := (.struct (Tryd.prog.fieldsOf 98))) (by kernel_rfl) (by kernel_rfl) rfl ⟨_, rfl, by kernel_rfl⟩ (fun _ => ⟨by kernel_rfl, by kernel_rfl, by kernel_rfl, by kernel_rfl⟩)
  · exact TyOK.of (d := (.func #[9, 3, 3] #[3, 4] false)) (by kernel_rfl) (by kernel_rfl) rfl ⟨_, _, _, rfl⟩ (fun h => by cases h)
  · exact TyOK.of (d := (.func #[] #[9] false)) (by kernel_rfl) (by kernel_rfl) rfl ⟨_, _, _, rfl⟩ (fun h => by cases h)
  · exact TyOK.of (d := (.func #[38] #[3] false)) (by kernel_rfl) (by kernel_rfl) rfl ⟨_, _, _, rfl⟩ (fun h => by cases h)
  · exact TyOK.of (d := (.func #[] #[3] false)) (by kernel_rfl) (by kernel_rfl) rfl ⟨_, _, _, rfl⟩ (fun h => by cases h)
  · exact TyOK.of (d := (.func #[] #[38] false)) (by kernel_rfl) (by kernel_rfl) rfl ⟨_, _, _, rfl⟩ (fun h => by cases h)
  · exact TyOK.of (d := (.pointer 37)) (by kernel_rfl) (by kernel_rfl) rfl rfl (fun h => by cases h)
  · exact TyOK.of (d := (.array 5 3)) (by kernel_rfl) (by kernel_rfl) rfl rfl (fun h => by cases h)
  · exact TyOK.of (d := (.array 3 9)) (by kernel_rfl) (by kernel_rfl) rfl rfl (fun h => by cases h)
  · exact TyOK.of (d := (.array 5 38)) (by kernel_rfl) (by kernel_rfl) rfl rfl (fun h => by cases h)
  · exact TyOK.of (d := (.func #[9] #[38, 4] false)) (by kernel_rfl) (by kernel_rfl) rfl ⟨_, _, _, rfl⟩ (fun h => by cases h)
  · exact TyOK.of (d := (.struct (Tryd.prog.fieldsOf 112))) (by kernel_rfl) (by kernel_rfl) rfl ⟨_, rfl, by kernel_rfl⟩ (fun h => by cases h)
  · exact TyOK.of (d := (.func #[20] #[89] false)) (by kernel_rfl) (by kernel_rfl) rfl ⟨_, _, _, rfl⟩ (fun h => by cases h)
  · exact TyOK.of (d := (.func #[] #[86] false)) (by kernel_rfl) (by kernel_rfl) rfl ⟨_, _, _, rfl⟩ (fun h => by cases h)
  · exact TyOK.of (d := (.func #[86] #[] false)) (by kernel_rfl) (by kernel_rfl) rfl ⟨_, _, _, rfl⟩ (fun h => by cases h)
  · exact TyOK.of (d := (.interface #[("As", 119)])) (by kernel_rfl) (by kernel_rfl) rfl ⟨_, rfl⟩ (fun h => by cases h)
  · exact TyOK.of (d := (.func #[20] #[4] false)) (by kernel_rfl) (by kernel_rfl) rfl ⟨_, _, _, rfl⟩ (fun h => by cases h)
  · exact TyOK.of (d := (.interface #[("Unwrap", 121)])) (by kernel_rfl) (by kernel_rfl) rfl ⟨_, rfl⟩ (fun h => by cases h)
  · exact TyOK.of (d := (.func #[] #[28] false)) (by kernel_rfl) (by kernel_rfl) rfl ⟨_, _, _, rfl⟩ (fun h => by cases h)
  · exact TyOK.of (d := (.interface #[("Unwrap", 124)])) (by kernel_rfl) (by kernel_rfl) rfl ⟨_, rfl⟩ (fun h => by cases h)
  · exact TyOK.of (d := (.slice 28)) (by kernel_rfl) (by kernel_rfl) rfl rfl (fun h => by cases h)
  · exact TyOK.of (d := (.func #[] #[123] false)) (by kernel_rfl) (by kernel_rfl) rfl ⟨_, _, _, rfl⟩ (fun h => by cases h)
  · exact TyOK.of (d := (.func #[9, 3] #[38] false)) (by kernel_rfl) (by kernel_rfl) rfl ⟨_, _, _, rfl⟩ (fun h => by cases h)
  · exact TyOK.of (d := (.func #[9, 9] #[3] false)) (by kernel_rfl) (by kernel_rfl) rfl ⟨_, _, _, rfl⟩ (fun h => by cases h)
  · exact TyOK.of (d := (.func #[5] #[4] false)) (by kernel_rfl) (by kernel_rfl) rfl ⟨_, _, _, rfl⟩ (fun h => by cases h)
  · exact TyOK.of (d := (.func #[38] #[4] false)) (by kernel_rfl) (by kernel_rfl) rfl ⟨_, _, _, rfl⟩ (fun h => by cases h)
  · exact TyOK.of (d := (.func #[9] #[3] false)) (by kernel_rfl) (by kernel_rfl) rfl ⟨_, _, _, rfl⟩ (fun h => by cases h)
  · exact TyOK.of (d := (.func #[9] #[21, 3] false)) (by kernel_rfl) (by kernel_rfl) rfl ⟨_, _, _, rfl⟩ (fun h => by cases h)
  · exact TyOK.of (d := (.func #[9, 5] #[3] false)) (by kernel_rfl) (by kernel_rfl) rfl ⟨_, _, _, rfl⟩ (fun h => by cases h)
  · exact TyOK.of (d := (.func #[3] #[3] false)) (by kernel_rfl) (by kernel_rfl) rfl ⟨_, _, _, rfl⟩ (fun h => by cases h)
  · exact TyOK.of (d := (.func #[38, 9] #[4] false)) (by kernel_rfl) (by kernel_rfl) rfl ⟨_, _, _, rfl⟩ (fun h => by cases h)
  · exact TyOK.of (d := (.array 256 5)) (by kernel_rfl) (by kernel_rfl) rfl rfl (fun h => by cases h)
  · exact TyOK.of (d := (.struct (Tryd.prog.fieldsOf 136))) (by kernel_rfl) (by kernel_rfl) rfl ⟨_, rfl, by kernel_rfl⟩ (fun _ => ⟨by kernel_rfl, by kernel_rfl, by kernel_rfl, by kernel_rfl⟩)
  · exact TyOK.of (d := (.struct (Tryd.prog.fieldsOf 137))) (by kernel_rfl) (by kernel_rfl) rfl ⟨_, rfl, by kernel_rfl⟩ (fun _ => ⟨by kernel_rfl, by kernel_rfl, by kernel_rfl, by kernel_rfl⟩)
  · exact TyOK.of (d := (.array 16 137)) (by kernel_rfl) (by kernel_rfl) rfl rfl (fun h => by cases h)
  · exact TyOK.of (d := (.int .u32)) (by kernel_rfl) (by kernel_rfl) rfl rfl (fun h => by cases h)
  · exact TyOK.of (d := (.func #[9] #[139, 139] false)) (by kernel_rfl) (by kernel_rfl) rfl ⟨_, _, _, rfl⟩ (fun h => by cases h)
  · exact TyOK.of (d := (.func #[38, 9] #[3] false)) (by kernel_rfl) (by kernel_rfl) rfl ⟨_, _, _, rfl⟩ (fun h => by cases h)
  · exact TyOK.of (d := (.pointer 5)) (by kernel_rfl) (by kernel_rfl) rfl rfl (fun h => by cases h)
  · exact TyOK.of (d := (.int .u16)) (by kernel_rfl) (by kernel_rfl) rfl rfl (fun h => by cases h)
  · exact TyOK.of (d := (.pointer 28)) (by kernel_rfl) (by kernel_rfl) rfl rfl (fun h => by cases h)
end Go.Proofs.YtljidkmppeaecaaDoor

