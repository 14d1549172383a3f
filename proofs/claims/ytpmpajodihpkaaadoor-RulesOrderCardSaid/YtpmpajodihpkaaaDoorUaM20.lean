/- The library of this claim and its walks, part 20, joined out of smaller texts. No statement stands in it. -/
import Derived.Test.YtpmpajodihpkaaaDoorUaM17
import Derived.Test.YtpmpajodihpkaaaDoorProg
/- The types of this program, as the evaluator needs them; what its package variables hold. -/
namespace Go.Proofs.YtpmpajodihpkaaaDoor
open Go Go.Proofs Go.Ua
set_option linter.unusedVariables false
instance : Globs Tryd.prog := ⟨fun b p => (b = 1 ∧ p = fun cs => ∃ m, cs[0]? = some (Value.int .i64 m)) ∨ (b = 0 ∧ p = fun cs => cs = [.iface 93 (.agg #[.pointer (some ⟨2, 30, none⟩)])])⟩
theorem G_err : Globs.G Tryd.prog 0 (fun cs => cs = [.iface 93 (.agg #[.pointer (some ⟨2, 30, none⟩)])]) := (.inr ⟨rfl, rfl⟩)
/-- The types that the functions of this seat name. -/
def tab : Tab := [
  (1, { k := .func, size := 1, bytes := 8, zero := [.fn0] }),
  (2, { k := .int .i64, size := 1, bytes := 8, zero := [.int .i64 0] }),
  (3, { k := .int .i64, size := 1, bytes := 8, zero := [.int .i64 0] }),
  (4, { k := .bool, size := 1, bytes := 1, zero := [.bool false] }),
  (5, { k := .int .u8, size := 1, bytes := 1, zero := [.int .u8 0] }),
  (9, { k := .string, size := 1, bytes := 16, zero := [.str []] }),
  (20, { k := .iface, size := 1, bytes := 16, zero := [.if0] }),
  (21, { k := .int .i32, size := 1, bytes := 4, zero := [.int .i32 0] }),
  (22, { k := .slice 33, size := 1, bytes := 24, zero := [.sl0] }),
  (23, { k := .slice 40, size := 1, bytes := 24, zero := [.sl0] }),
  (24, { k := .struct [(0, 3), (1, 3), (2, 3), (3, 3), (4, 22), (5, 23)], size := 6, bytes := 80, zero := [.int .i64 0, .int .i64 0, .int .i64 0, .int .i64 0, .sl0, .sl0] }),
  (25, { k := .struct [(0, 3), (1, 3), (2, 3), (3, 3), (4, 22), (5, 23)], size := 6, bytes := 80, zero := [.int .i64 0, .int .i64 0, .int .i64 0, .int .i64 0, .sl0, .sl0] }),
  (26, { k := .func, size := 1, bytes := 8, zero := [.fn0] }),
  (27, { k := .func, size := 1, bytes := 8, zero := [.fn0] }),
  (28, { k := .func, size := 1, bytes := 8, zero := [.fn0] }),
  (29, { k := .iface, size := 1, bytes := 16, zero := [.if0] }),
  (30, { k := .iface, size := 1, bytes := 16, zero := [.if0] }),
  (31, { k := .func, size := 1, bytes := 8, zero := [.fn0] }),
  (32, { k := .struct [(0, 9), (1, 3), (2, 3), (3, 3), (4, 3), (5, 3), (6, 3), (7, 3), (8, 3), (9, 3)], size := 10, bytes := 88, zero := [.str [], .int .i64 0, .int .i64 0, .int .i64 0, .int .i64 0, .int .i64 0, .int .i64 0, .int .i64 0, .int .i64 0, .int .i64 0], eq := true }),
  (33, { k := .struct [(0, 9), (1, 3), (2, 3), (3, 3), (4, 3), (5, 3), (6, 3), (7, 3), (8, 3), (9, 3)], size := 10, bytes := 88, zero := [.str [], .int .i64 0, .int .i64 0, .int .i64 0, .int .i64 0, .int .i64 0, .int .i64 0, .int .i64 0, .int .i64 0, .int .i64 0], eq := true }),
  (34, { k := .int .u64, size := 1, bytes := 8, zero := [.int .u64 0] }),
  (35, { k := .int .i64, size := 1, bytes := 8, zero := [.int .i64 0] }),
  (37, { k := .func, size := 1, bytes := 8, zero := [.fn0] }),
  (38, { k := .slice 47, size := 1, bytes := 24, zero := [.sl0] }),
  (39, { k := .struct [(0, 9), (1, 9), (2, 3), (3, 3), (4, 38)], size := 5, bytes := 72, zero := [.str [], .str [], .int .i64 0, .int .i64 0, .sl0] }),
  (40, { k := .struct [(0, 9), (1, 9), (2, 3), (3, 3), (4, 38)], size := 5, bytes := 72, zero := [.str [], .str [], .int .i64 0, .int .i64 0, .sl0] }),
  (41, { k := .int .u64, size := 1, bytes := 8, zero := [.int .u64 0] }),
  (42, { k := .func, size := 1, bytes := 8, zero := [.fn0] }),
  (43, { k := .func, size := 1, bytes := 8, zero := [.fn0] }),
  (44, { k := .func, size := 1, bytes := 8, zero := [.fn0] }),
  (45, { k := .slice 9, size := 1, bytes := 24, zero := [.sl0] }),
  (46, { k := .struct [(0, 45), (1, 45), (2, 45), (3, 45), (4, 45)], size := 5, bytes := 120, zero := [.sl0, .sl0, .sl0, .sl0, .sl0] }),
  (47, { k := .struct [(0, 45), (1, 45), (2, 45), (3, 45), (4, 45)], size := 5, bytes := 120, zero := [.sl0, .sl0, .sl0, .sl0, .sl0] }),
  (48, { k := .slice 45, size := 1, bytes := 24, zero := [.sl0] }),
  (49, { k := .func, size := 1, bytes := 8, zero := [.fn0] }),
  (50, { k := .map 9 3, size := 1, bytes := 8, zero := [.map0] }),
  (51, { k := .func, size := 1, bytes := 8, zero := [.fn0] }),
  (52, { k := .func, size := 1, bytes := 8, zero := [.fn0] }),
  (53, { k := .func, size := 1, bytes := 8, zero := [.fn0] }),
  (54, { k := .struct [(0, 9), (1, 3)], size := 2, bytes := 24, zero := [.str [], .int .i64 0], eq := true }),
  (55, { k := .array 3 54, size := 6, bytes := 72, zero := [.str [], .int .i64 0, .str [], .int .i64 0, .str [], .int .i64 0] }),
  (56, { k := .func, size := 1, bytes := 8, zero := [.fn0] }),
  (57, { k := .func, size := 1, bytes := 8, zero := [.fn0] }),
  (58, { k := .func, size := 1, bytes := 8, zero := [.fn0] }),
  (59, { k := .func, size := 1, bytes := 8, zero := [.fn0] }),
  (60, { k := .pointer 35, size := 1, bytes := 8, zero := [.ptr0] }),
  (61, { k := .struct [(0, 3), (1, 9), (2, 30)], size := 3, bytes := 40, zero := [.int .i64 0, .str [], .if0] }),
  (62, { k := .struct [(0, 3), (1, 9), (2, 30)], size := 3, bytes := 40, zero := [.int .i64 0, .str [], .if0] }),
  (63, { k := .pointer 62, size := 1, bytes := 8, zero := [.ptr0] }),
  (64, { k := .func, size := 1, bytes := 8, zero := [.fn0] }),
  (65, { k := .func, size := 1, bytes := 8, zero := [.fn0] }),
  (66, { k := .func, size := 1, bytes := 8, zero := [.fn0] }),
  (67, { k := .func, size := 1, bytes := 8, zero := [.fn0] }),
  (68, { k := .func, size := 1, bytes := 8, zero := [.fn0] }),
  (69, { k := .func, size := 1, bytes := 8, zero := [.fn0] }),
  (70, { k := .array 2 9, size := 2, bytes := 32, zero := [.str [], .str []] }),
  (71, { k := .func, size := 1, bytes := 8, zero := [.fn0] }),
  (73, { k := .int .u64, size := 1, bytes := 8, zero := [.int .u64 0] }),
  (75, { k := .struct [(0, 17), (1, 72), (2, 73)], size := 3, bytes := 24, zero := [.ptr0, .ptr0, .int .u64 0] }),
  (76, { k := .func, size := 1, bytes := 8, zero := [.fn0] }),
  (78, { k := .iface, size := 1, bytes := 16, zero := [.if0] }),
  (79, { k := .func, size := 1, bytes := 8, zero := [.fn0] }),
  (82, { k := .func, size := 1, bytes := 8, zero := [.fn0] }),
  (83, { k := .func, size := 1, bytes := 8, zero := [.fn0] }),
  (84, { k := .func, size := 1, bytes := 8, zero := [.fn0] }),
  (85, { k := .array 5 45, size := 5, bytes := 120, zero := [.sl0, .sl0, .sl0, .sl0, .sl0] }),
  (86, { k := .func, size := 1, bytes := 8, zero := [.fn0] }),
  (87, { k := .func, size := 1, bytes := 8, zero := [.fn0] }),
  (88, { k := .func, size := 1, bytes := 8, zero := [.fn0] }),
  (89, { k := .func, size := 1, bytes := 8, zero := [.fn0] }),
  (90, { k := .func, size := 1, bytes := 8, zero := [.fn0] }),
  (91, { k := .func, size := 1, bytes := 8, zero := [.fn0] }),
  (93, { k := .struct [(0, 17)], size := 1, bytes := 8, zero := [.ptr0] }),
  (95, { k := .func, size := 1, bytes := 8, zero := [.fn0] }),
  (96, { k := .func, size := 1, bytes := 8, zero := [.fn0] }),
  (97, { k := .func, size := 1, bytes := 8, zero := [.fn0] }),
  (98, { k := .iface, size := 1, bytes := 16, zero := [.if0] }),
  (100, { k := .func, size := 1, bytes := 8, zero := [.fn0] }),
  (101, { k := .iface, size := 1, bytes := 16, zero := [.if0] }),
  (102, { k := .func, size := 1, bytes := 8, zero := [.fn0] }),
  (103, { k := .iface, size := 1, bytes := 16, zero := [.if0] }),
  (104, { k := .slice 30, size := 1, bytes := 24, zero := [.sl0] }),
  (105, { k := .func, size := 1, bytes := 8, zero := [.fn0] }),
  (106, { k := .func, size := 1, bytes := 8, zero := [.fn0] }),
  (107, { k := .func, size := 1, bytes := 8, zero := [.fn0] }),
  (108, { k := .func, size := 1, bytes := 8, zero := [.fn0] }),
  (109, { k := .func, size := 1, bytes := 8, zero := [.fn0] }),
  (110, { k := .pointer 113, size := 1, bytes := 8, zero := [.ptr0] }),
  (111, { k := .slice 5, size := 1, bytes := 24, zero := [.sl0] }),
  (112, { k := .struct [(0, 110), (1, 111)], size := 2, bytes := 32, zero := [.ptr0, .sl0] }),
  (113, { k := .struct [(0, 110), (1, 111)], size := 2, bytes := 32, zero := [.ptr0, .sl0] }),
  (114, { k := .func, size := 1, bytes := 8, zero := [.fn0] }),
  (116, { k := .func, size := 1, bytes := 8, zero := [.fn0] }),
  (117, { k := .func, size := 1, bytes := 8, zero := [.fn0] }),
  (118, { k := .func, size := 1, bytes := 8, zero := [.fn0] }),
  (119, { k := .func, size := 1, bytes := 8, zero := [.fn0] }),
  (120, { k := .pointer 5, size := 1, bytes := 8, zero := [.ptr0] }),
  (122, { k := .func, size := 1, bytes := 8, zero := [.fn0] }),
  (128, { k := .func, size := 1, bytes := 8, zero := [.fn0] }),
  (130, { k := .int .u32, size := 1, bytes := 4, zero := [.int .u32 0] }),
  (143, { k := .int .u16, size := 1, bytes := 2, zero := [.int .u16 0] }),
  (150, { k := .pointer 30, size := 1, bytes := 8, zero := [.ptr0] })]
set_option maxRecDepth 100000 in
theorem tabOK : TabOK Tryd.prog tab := by
  refine ⟨?_, ?_, ?_, ?_, ?_, ?_, ?_, ?_, ?_, ?_, ?_, ?_, ?_, ?_, ?_, ?_, ?_, ?_, ?_, ?_, ?_, ?_, ?_, ?_, ?_, ?_, ?_, ?_, ?_, ?_, ?_, ?_, ?_, ?_, ?_, ?_, ?_, ?_, ?_, ?_, ?_, ?_, ?_, ?_, ?_, ?_, ?_, ?_, ?_, ?_, ?_, ?_, ?_, ?_, ?_, ?_, ?_, ?_, ?_, ?_, ?_, ?_, ?_, ?_, ?_, ?_, ?_, ?_, ?_, ?_, ?_, ?_, ?_, ?_, ?_, ?_, ?_, ?_, ?_, ?_, ?_, ?_, ?_, ?_, ?_, ?_, ?_, ?_, ?_, ?_, ?_, ?_, ?_, ?_, ?_, ?_, ?_, ?_, ?_, ?_, ?_, ?_, trivial⟩
  · exact TyOK.of (d := (.func #[] #[] false)) (by kernel_rfl) (by kernel_rfl) rfl ⟨_, _, _, rfl⟩ (fun h => by cases h)
  · exact TyOK.of (d := (.int .i64)) (by kernel_rfl) (by kernel_rfl) rfl rfl (fun h => by cases h)
  · exact TyOK.of (d := (.int .i64)) (by kernel_rfl) (by kernel_rfl) rfl rfl (fun h => by cases h)
  · exact TyOK.of (d := .bool) (by kernel_rfl) (by kernel_rfl) rfl rfl (fun h => by cases h)
  · exact TyOK.of (d := (.int .u8)) (by kernel_rfl) (by kernel_rfl) rfl rfl (fun h => by cases h)
  · exact TyOK.of (d := .string) (by kernel_rfl) (by kernel_rfl) rfl rfl (fun h => by cases h)
  · exact TyOK.of (d := (.interface #[])) (by kernel_rfl) (by kernel_rfl) rfl ⟨_, rfl⟩ (fun h => by cases h)
  · exact TyOK.of (d := (.int .i32)) (by kernel_rfl) (by kernel_rfl) rfl rfl (fun h => by cases h)
  · exact TyOK.of (d := (.slice 33)) (by kernel_rfl) (by kernel_rfl) rfl rfl (fun h => by cases h)
  · exact TyOK.of (d := (.slice 40)) (by kernel_rfl) (by kernel_rfl) rfl rfl (fun h => by cases h)
  · exact TyOK.of (d := (.struct (Tryd.prog.fieldsOf 24))) (by kernel_rfl) (by kernel_rfl) rfl ⟨_, rfl, by kernel_rfl⟩ (fun h => by cases h)
  · exact TyOK.of (d := (.struct (Tryd.prog.fieldsOf 25))) (by kernel_rfl) (by kernel_rfl) rfl ⟨_, rfl, by kernel_rfl⟩ (fun h => by cases h)
  · exact TyOK.of (d := (.func #[] #[4] false)) (by kernel_rfl) (by kernel_rfl) rfl ⟨_, _, _, rfl⟩ (fun h => by cases h)
  · exact TyOK.of (d := (.func #[25] #[4] false)) (by kernel_rfl) (by kernel_rfl) rfl ⟨_, _, _, rfl⟩ (fun h => by cases h)
  · exact TyOK.of (d := (.func #[25] #[25] false)) (by kernel_rfl) (by kernel_rfl) rfl ⟨_, _, _, rfl⟩ (fun h => by cases h)
  · exact TyOK.of (d := (.interface #[("Error", 117)])) (by kernel_rfl) (by kernel_rfl) rfl ⟨_, rfl⟩ (fun h => by cases h)
  · exact TyOK.of (d := (.interface #[("Error", 117)])) (by kernel_rfl) (by kernel_rfl) rfl ⟨_, rfl⟩ (fun h => by cases h)
  · exact TyOK.of (d := (.func #[25] #[30] false)) (by kernel_rfl) (by kernel_rfl) rfl ⟨_, _, _, rfl⟩ (fun h => by cases h)
  · exact TyOK.of (d := (.struct (Tryd.prog.fieldsOf 32))) (by kernel_rfl) (by kernel_rfl) rfl ⟨_, rfl, by kernel_rfl⟩ (fun _ => ⟨by kernel_rfl, by kernel_rfl, by kernel_rfl, by kernel_rfl⟩)
  · exact TyOK.of (d := (.struct (Tryd.prog.fieldsOf 33))) (by kernel_rfl) (by kernel_rfl) rfl ⟨_, rfl, by kernel_rfl⟩ (fun _ => ⟨by kernel_rfl, by kernel_rfl, by kernel_rfl, by kernel_rfl⟩)
  · exact TyOK.of (d := (.int .u64)) (by kernel_rfl) (by kernel_rfl) rfl rfl (fun h => by cases h)
  · exact TyOK.of (d := (.int .i64)) (by kernel_rfl) (by kernel_rfl) rfl rfl (fun h => by cases h)
  · exact TyOK.of (d := (.func #[3, 3] #[34, 35] false)) (by kernel_rfl) (by kernel_rfl) rfl ⟨_, _, _, rfl⟩ (fun h => by cases h)
  · exact TyOK.of (d := (.slice 47)) (by kernel_rfl) (by kernel_rfl) rfl rfl (fun h => by cases h)
  · exact TyOK.of (d := (.struct (Tryd.prog.fieldsOf 39))) (by kernel_rfl) (by kernel_rfl) rfl ⟨_, rfl, by kernel_rfl⟩ (fun h => by cases h)
  · exact TyOK.of (d := (.struct (Tryd.prog.fieldsOf 40))) (by kernel_rfl) (by kernel_rfl) rfl ⟨_, rfl, by kernel_rfl⟩ (fun h => by cases h)
  · exact TyOK.of (d := (.int .u64)) (by kernel_rfl) (by kernel_rfl) rfl rfl (fun h => by cases h)
  · exact TyOK.of (d := (.func #[25, 3] #[4] false)) (by kernel_rfl) (by kernel_rfl) rfl ⟨_, _, _, rfl⟩ (fun h => by cases h)
  · exact TyOK.of (d := (.func #[30] #[35] false)) (by kernel_rfl) (by kernel_rfl) rfl ⟨_, _, _, rfl⟩ (fun h => by cases h)
  · exact TyOK.of (d := (.func #[30] #[9] false)) (by kernel_rfl) (by kernel_rfl) rfl ⟨_, _, _, rfl⟩ (fun h => by cases h)
  · exact TyOK.of (d := (.slice 9)) (by kernel_rfl) (by kernel_rfl) rfl rfl (fun h => by cases h)
  · exact TyOK.of (d := (.struct (Tryd.prog.fieldsOf 46))) (by kernel_rfl) (by kernel_rfl) rfl ⟨_, rfl, by kernel_rfl⟩ (fun h => by cases h)
  · exact TyOK.of (d := (.struct (Tryd.prog.fieldsOf 47))) (by kernel_rfl) (by kernel_rfl) rfl ⟨_, rfl, by kernel_rfl⟩ (fun h => by cases h)
  · exact TyOK.of (d := (.slice 45)) (by kernel_rfl) (by kernel_rfl) rfl rfl (fun h => by cases h)
  · exact TyOK.of (d := (.func #[3, 3] #[3] false)) (by kernel_rfl) (by kernel_rfl) rfl ⟨_, _, _, rfl⟩ (fun h => by cases h)
  · exact TyOK.of (d := (.map 9 3)) (by kernel_rfl) (by kernel_rfl) rfl rfl (fun h => by cases h)
  · exact TyOK.of (d := (.func #[40] #[40] false)) (by kernel_rfl) (by kernel_rfl) rfl ⟨_, _, _, rfl⟩ (fun h => by cases h)
  · exact TyOK.of (d := (.func #[] #[45] false)) (by kernel_rfl) (by kernel_rfl) rfl ⟨_, _, _, rfl⟩ (fun h => by cases h)
  · exact TyOK.of (d := (.func #[9, 30] #[30] false)) (by kernel_rfl) (by kernel_rfl) rfl ⟨_, _, _, rfl⟩ (fun h => by cases h)
  · exact TyOK.of (d := (.struct (Tryd.prog.fieldsOf 54))) (by kernel_rfl) (by kernel_rfl) rfl ⟨_, rfl, by kernel_rfl⟩ (fun _ => ⟨by kernel_rfl, by kernel_rfl, by kernel_rfl, by kernel_rfl⟩)
  · exact TyOK.of (d := (.array 3 54)) (by kernel_rfl) (by kernel_rfl) rfl rfl (fun h => by cases h)
  · exact TyOK.of (d := (.func #[33] #[35] false)) (by kernel_rfl) (by kernel_rfl) rfl ⟨_, _, _, rfl⟩ (fun h => by cases h)
  · exact TyOK.of (d := (.func #[40, 22] #[35] false)) (by kernel_rfl) (by kernel_rfl) rfl ⟨_, _, _, rfl⟩ (fun h => by cases h)
  · exact TyOK.of (d := (.func #[45] #[45] false)) (by kernel_rfl) (by kernel_rfl) rfl ⟨_, _, _, rfl⟩ (fun h => by cases h)
  · exact TyOK.of (d := (.func #[30, 20] #[4] false)) (by kernel_rfl) (by kernel_rfl) rfl ⟨_, _, _, rfl⟩ (fun h => by cases h)
  · exact TyOK.of (d := (.pointer 35)) (by kernel_rfl) (by kernel_rfl) rfl rfl (fun h => by cases h)
  · exact TyOK.of (d := (.struct (Tryd.prog.fieldsOf 61))) (by kernel_rfl) (by kernel_rfl) rfl ⟨_, rfl, by kernel_rfl⟩ (fun h => by cases h)
  · exact TyOK.of (d := (.struct (Tryd.prog.fieldsOf 62))) (by kernel_rfl) (by kernel_rfl) rfl ⟨_, rfl, by kernel_rfl⟩ (fun h => by cases h)
  · exact TyOK.of (d := (.pointer 62)) (by kernel_rfl) (by kernel_rfl) rfl rfl (fun h => by cases h)
  · exact TyOK.of (d := (.func #[3, 3, 3] #[4] false)) (by kernel_rfl) (by kernel_rfl) rfl ⟨_, _, _, rfl⟩ (fun h => by cases h)
  · exact TyOK.of (d := (.func #[33] #[4] false)) (by kernel_rfl) (by kernel_rfl) rfl ⟨_, _, _, rfl⟩ (fun h => by cases h)
  · exact TyOK.of (d := (.func #[40] #[4] false)) (by kernel_rfl) (by kernel_rfl) rfl ⟨_, _, _, rfl⟩ (fun h => by cases h)
  · exact TyOK.of (d := (.func #[22, 9] #[4] false)) (by kernel_rfl) (by kernel_rfl) rfl ⟨_, _, _, rfl⟩ (fun h => by cases h)
  · exact TyOK.of (d := (.func #[38, 69] #[4] false)) (by kernel_rfl) (by kernel_rfl) rfl ⟨_, _, _, rfl⟩ (fun h => by cases h)
  · exact TyOK.of (d := (.func #[47] #[4] false)) (by kernel_rfl) (by kernel_rfl) rfl ⟨_, _, _, rfl⟩ (fun h => by cases h)
  · exact TyOK.of (d := (.array 2 9)) (by kernel_rfl) (by kernel_rfl) rfl rfl (fun h => by cases h)
  · exact TyOK.of (d := (.func #[23, 66] #[4] false)) (by kernel_rfl) (by kernel_rfl) rfl ⟨_, _, _, rfl⟩ (fun h => by cases h)
  · exact TyOK.of (d := (.int .u64)) (by kernel_rfl) (by kernel_rfl) rfl rfl (fun h => by cases h)
  · exact TyOK.of (d := (.struct (Tryd.prog.fieldsOf 75))) (by kernel_rfl) (by kernel_rfl) rfl ⟨_, rfl, by kernel_rfl⟩ (fun h => by cases h)
  · exact TyOK.of (d := (.func #[20] #[75] false)) (by kernel_rfl) (by kernel_rfl) rfl ⟨_, _, _, rfl⟩ (fun h => by cases h)
  · exact TyOK.of (d := (.interface #[("AssignableTo", 82), ("Comparable", 26), ("Elem", 79), ("Implements", 82), ("Kind", 81), ("Name", 117), ("PkgPath", 117), ("Size", 137), ("String", 117), ("internal/reflectlite.common", 129), ("internal/reflectlite.uncommon", 138)])) (by kernel_rfl) (by kernel_rfl) rfl ⟨_, rfl⟩ (fun h => by cases h)
  · exact TyOK.of (d := (.func #[] #[78] false)) (by kernel_rfl) (by kernel_rfl) rfl ⟨_, _, _, rfl⟩ (fun h => by cases h)
  · exact TyOK.of (d := (.func #[78] #[4] false)) (by kernel_rfl) (by kernel_rfl) rfl ⟨_, _, _, rfl⟩ (fun h => by cases h)
  · exact TyOK.of (d := (.func #[30, 20, 75, 78] #[4] false)) (by kernel_rfl) (by kernel_rfl) rfl ⟨_, _, _, rfl⟩ (fun h => by cases h)
  · exact TyOK.of (d := (.func #[9] #[4] false)) (by kernel_rfl) (by kernel_rfl) rfl ⟨_, _, _, rfl⟩ (fun h => by cases h)
  · exact TyOK.of (d := (.array 5 45)) (by kernel_rfl) (by kernel_rfl) rfl rfl (fun h => by cases h)
  · exact TyOK.of (d := (.func #[47] #[85] false)) (by kernel_rfl) (by kernel_rfl) rfl ⟨_, _, _, rfl⟩ (fun h => by cases h)
  · exact TyOK.of (d := (.func #[45] #[9] false)) (by kernel_rfl) (by kernel_rfl) rfl ⟨_, _, _, rfl⟩ (fun h => by cases h)
  · exact TyOK.of (d := (.func #[22, 65] #[4] false)) (by kernel_rfl) (by kernel_rfl) rfl ⟨_, _, _, rfl⟩ (fun h => by cases h)
  · exact TyOK.of (d := (.func #[38, 69] #[3] false)) (by kernel_rfl) (by kernel_rfl) rfl ⟨_, _, _, rfl⟩ (fun h => by cases h)
  · exact TyOK.of (d := (.func #[45] #[4] false)) (by kernel_rfl) (by kernel_rfl) rfl ⟨_, _, _, rfl⟩ (fun h => by cases h)
  · exact TyOK.of (d := (.func #[23, 66] #[3] false)) (by kernel_rfl) (by kernel_rfl) rfl ⟨_, _, _, rfl⟩ (fun h => by cases h)
  · exact TyOK.of (d := (.struct (Tryd.prog.fieldsOf 93))) (by kernel_rfl) (by kernel_rfl) rfl ⟨_, rfl, by kernel_rfl⟩ (fun h => by cases h)
  · exact TyOK.of (d := (.func #[20] #[78] false)) (by kernel_rfl) (by kernel_rfl) rfl ⟨_, _, _, rfl⟩ (fun h => by cases h)
  · exact TyOK.of (d := (.func #[] #[75] false)) (by kernel_rfl) (by kernel_rfl) rfl ⟨_, _, _, rfl⟩ (fun h => by cases h)
  · exact TyOK.of (d := (.func #[75] #[] false)) (by kernel_rfl) (by kernel_rfl) rfl ⟨_, _, _, rfl⟩ (fun h => by cases h)
  · exact TyOK.of (d := (.interface #[("As", 100)])) (by kernel_rfl) (by kernel_rfl) rfl ⟨_, rfl⟩ (fun h => by cases h)
  · exact TyOK.of (d := (.func #[20] #[4] false)) (by kernel_rfl) (by kernel_rfl) rfl ⟨_, _, _, rfl⟩ (fun h => by cases h)
  · exact TyOK.of (d := (.interface #[("Unwrap", 102)])) (by kernel_rfl) (by kernel_rfl) rfl ⟨_, rfl⟩ (fun h => by cases h)
  · exact TyOK.of (d := (.func #[] #[30] false)) (by kernel_rfl) (by kernel_rfl) rfl ⟨_, _, _, rfl⟩ (fun h => by cases h)
  · exact TyOK.of (d := (.interface #[("Unwrap", 105)])) (by kernel_rfl) (by kernel_rfl) rfl ⟨_, rfl⟩ (fun h => by cases h)
  · exact TyOK.of (d := (.slice 30)) (by kernel_rfl) (by kernel_rfl) rfl rfl (fun h => by cases h)
  · exact TyOK.of (d := (.func #[] #[104] false)) (by kernel_rfl) (by kernel_rfl) rfl ⟨_, _, _, rfl⟩ (fun h => by cases h)
  · exact TyOK.of (d := (.func #[5] #[4] false)) (by kernel_rfl) (by kernel_rfl) rfl ⟨_, _, _, rfl⟩ (fun h => by cases h)
  · exact TyOK.of (d := (.func #[45, 9] #[9] false)) (by kernel_rfl) (by kernel_rfl) rfl ⟨_, _, _, rfl⟩ (fun h => by cases h)
  · exact TyOK.of (d := (.func #[22, 65] #[3] false)) (by kernel_rfl) (by kernel_rfl) rfl ⟨_, _, _, rfl⟩ (fun h => by cases h)
  · exact TyOK.of (d := (.func #[45, 9] #[4] false)) (by kernel_rfl) (by kernel_rfl) rfl ⟨_, _, _, rfl⟩ (fun h => by cases h)
  · exact TyOK.of (d := (.pointer 113)) (by kernel_rfl) (by kernel_rfl) rfl rfl (fun h => by cases h)
  · exact TyOK.of (d := (.slice 5)) (by kernel_rfl) (by kernel_rfl) rfl rfl (fun h => by cases h)
  · exact TyOK.of (d := (.struct (Tryd.prog.fieldsOf 112))) (by kernel_rfl) (by kernel_rfl) rfl ⟨_, rfl, by kernel_rfl⟩ (fun h => by cases h)
  · exact TyOK.of (d := (.struct (Tryd.prog.fieldsOf 113))) (by kernel_rfl) (by kernel_rfl) rfl ⟨_, rfl, by kernel_rfl⟩ (fun h => by cases h)
  · exact TyOK.of (d := (.func #[3] #[] false)) (by kernel_rfl) (by kernel_rfl) rfl ⟨_, _, _, rfl⟩ (fun h => by cases h)
  · exact TyOK.of (d := (.func #[9] #[3, 30] false)) (by kernel_rfl) (by kernel_rfl) rfl ⟨_, _, _, rfl⟩ (fun h => by cases h)
  · exact TyOK.of (d := (.func #[] #[9] false)) (by kernel_rfl) (by kernel_rfl) rfl ⟨_, _, _, rfl⟩ (fun h => by cases h)
  · exact TyOK.of (d := (.func #[9, 5] #[3] false)) (by kernel_rfl) (by kernel_rfl) rfl ⟨_, _, _, rfl⟩ (fun h => by cases h)
  · exact TyOK.of (d := (.func #[45, 9] #[3] false)) (by kernel_rfl) (by kernel_rfl) rfl ⟨_, _, _, rfl⟩ (fun h => by cases h)
  · exact TyOK.of (d := (.pointer 5)) (by kernel_rfl) (by kernel_rfl) rfl rfl (fun h => by cases h)
  · exact TyOK.of (d := (.func #[3] #[111] false)) (by kernel_rfl) (by kernel_rfl) rfl ⟨_, _, _, rfl⟩ (fun h => by cases h)
  · exact TyOK.of (d := (.func #[] #[3] false)) (by kernel_rfl) (by kernel_rfl) rfl ⟨_, _, _, rfl⟩ (fun h => by cases h)
  · exact TyOK.of (d := (.int .u32)) (by kernel_rfl) (by kernel_rfl) rfl rfl (fun h => by cases h)
  · exact TyOK.of (d := (.int .u16)) (by kernel_rfl) (by kernel_rfl) rfl rfl (fun h => by cases h)
  · exact TyOK.of (d := (.pointer 30)) (by kernel_rfl) (by kernel_rfl) rfl rfl (fun h => by cases h)
end Go.Proofs.YtpmpajodihpkaaaDoor

