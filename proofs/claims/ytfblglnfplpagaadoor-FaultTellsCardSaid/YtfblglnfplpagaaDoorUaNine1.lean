/- The types of this program, as the evaluator needs them; what its package variables hold. -/
import Derived.Test.YtfblglnfplpagaaDoorUaW
import Derived.Test.YtfblglnfplpagaaDoorProg
namespace Go.Proofs.YtfblglnfplpagaaDoor
open Go Go.Proofs Go.Ua
set_option linter.unusedVariables false
instance : Globs Tryd.prog := ⟨fun b cs => b = 0 ∧ cs = [.iface 78 (.agg #[.pointer (some ⟨4, 25, none⟩)])]⟩
/-- The types that the functions of this seat name. -/
def tab : Tab := [
  (1, { k := .func, size := 1, bytes := 8, zero := [.fn0] }),
  (2, { k := .int .i64, size := 1, bytes := 8, zero := [.int .i64 0] }),
  (3, { k := .int .i64, size := 1, bytes := 8, zero := [.int .i64 0] }),
  (4, { k := .bool, size := 1, bytes := 1, zero := [.bool false] }),
  (5, { k := .int .u8, size := 1, bytes := 1, zero := [.int .u8 0] }),
  (9, { k := .string, size := 1, bytes := 16, zero := [.str []] }),
  (20, { k := .iface, size := 1, bytes := 16, zero := [.if0] }),
  (21, { k := .int .i32, size := 1, bytes := 4, zero := [.int .i32 0] }),
  (22, { k := .slice 48, size := 1, bytes := 24, zero := [.sl0] }),
  (23, { k := .func, size := 1, bytes := 8, zero := [.fn0] }),
  (24, { k := .iface, size := 1, bytes := 16, zero := [.if0] }),
  (25, { k := .iface, size := 1, bytes := 16, zero := [.if0] }),
  (26, { k := .struct [(0, 3), (1, 9), (2, 25)], size := 3, bytes := 40, zero := [.int .i64 0, .str [], .if0] }),
  (27, { k := .struct [(0, 3), (1, 9), (2, 25)], size := 3, bytes := 40, zero := [.int .i64 0, .str [], .if0] }),
  (28, { k := .int .i64, size := 1, bytes := 8, zero := [.int .i64 0] }),
  (29, { k := .func, size := 1, bytes := 8, zero := [.fn0] }),
  (30, { k := .func, size := 1, bytes := 8, zero := [.fn0] }),
  (31, { k := .func, size := 1, bytes := 8, zero := [.fn0] }),
  (32, { k := .func, size := 1, bytes := 8, zero := [.fn0] }),
  (33, { k := .func, size := 1, bytes := 8, zero := [.fn0] }),
  (34, { k := .func, size := 1, bytes := 8, zero := [.fn0] }),
  (35, { k := .func, size := 1, bytes := 8, zero := [.fn0] }),
  (36, { k := .slice 50, size := 1, bytes := 24, zero := [.sl0] }),
  (37, { k := .struct [(0, 3), (1, 36)], size := 2, bytes := 32, zero := [.int .i64 0, .sl0] }),
  (38, { k := .struct [(0, 3), (1, 36)], size := 2, bytes := 32, zero := [.int .i64 0, .sl0] }),
  (40, { k := .func, size := 1, bytes := 8, zero := [.fn0] }),
  (41, { k := .func, size := 1, bytes := 8, zero := [.fn0] }),
  (42, { k := .func, size := 1, bytes := 8, zero := [.fn0] }),
  (43, { k := .func, size := 1, bytes := 8, zero := [.fn0] }),
  (44, { k := .func, size := 1, bytes := 8, zero := [.fn0] }),
  (45, { k := .func, size := 1, bytes := 8, zero := [.fn0] }),
  (46, { k := .func, size := 1, bytes := 8, zero := [.fn0] }),
  (47, { k := .struct [(0, 3), (1, 3), (2, 9)], size := 3, bytes := 32, zero := [.int .i64 0, .int .i64 0, .str []], eq := true }),
  (48, { k := .struct [(0, 3), (1, 3), (2, 9)], size := 3, bytes := 32, zero := [.int .i64 0, .int .i64 0, .str []], eq := true }),
  (49, { k := .struct [(0, 3), (1, 9)], size := 2, bytes := 24, zero := [.int .i64 0, .str []], eq := true }),
  (50, { k := .struct [(0, 3), (1, 9)], size := 2, bytes := 24, zero := [.int .i64 0, .str []], eq := true }),
  (51, { k := .func, size := 1, bytes := 8, zero := [.fn0] }),
  (52, { k := .func, size := 1, bytes := 8, zero := [.fn0] }),
  (53, { k := .func, size := 1, bytes := 8, zero := [.fn0] }),
  (54, { k := .pointer 28, size := 1, bytes := 8, zero := [.ptr0] }),
  (55, { k := .pointer 27, size := 1, bytes := 8, zero := [.ptr0] }),
  (56, { k := .func, size := 1, bytes := 8, zero := [.fn0] }),
  (57, { k := .int .u64, size := 1, bytes := 8, zero := [.int .u64 0] }),
  (58, { k := .func, size := 1, bytes := 8, zero := [.fn0] }),
  (59, { k := .slice 5, size := 1, bytes := 24, zero := [.sl0] }),
  (61, { k := .int .u64, size := 1, bytes := 8, zero := [.int .u64 0] }),
  (63, { k := .struct [(0, 17), (1, 60), (2, 61)], size := 3, bytes := 24, zero := [.ptr0, .ptr0, .int .u64 0] }),
  (64, { k := .func, size := 1, bytes := 8, zero := [.fn0] }),
  (66, { k := .iface, size := 1, bytes := 16, zero := [.if0] }),
  (67, { k := .func, size := 1, bytes := 8, zero := [.fn0] }),
  (70, { k := .func, size := 1, bytes := 8, zero := [.fn0] }),
  (71, { k := .func, size := 1, bytes := 8, zero := [.fn0] }),
  (72, { k := .pointer 74, size := 1, bytes := 8, zero := [.ptr0] }),
  (73, { k := .struct [(0, 9)], size := 1, bytes := 16, zero := [.str []], eq := true }),
  (74, { k := .struct [(0, 9)], size := 1, bytes := 16, zero := [.str []], eq := true }),
  (75, { k := .func, size := 1, bytes := 8, zero := [.fn0] }),
  (76, { k := .func, size := 1, bytes := 8, zero := [.fn0] }),
  (78, { k := .struct [(0, 17)], size := 1, bytes := 8, zero := [.ptr0] }),
  (80, { k := .func, size := 1, bytes := 8, zero := [.fn0] }),
  (81, { k := .func, size := 1, bytes := 8, zero := [.fn0] }),
  (82, { k := .iface, size := 1, bytes := 16, zero := [.if0] }),
  (84, { k := .func, size := 1, bytes := 8, zero := [.fn0] }),
  (85, { k := .iface, size := 1, bytes := 16, zero := [.if0] }),
  (86, { k := .iface, size := 1, bytes := 16, zero := [.if0] }),
  (87, { k := .slice 25, size := 1, bytes := 24, zero := [.sl0] }),
  (88, { k := .func, size := 1, bytes := 8, zero := [.fn0] }),
  (89, { k := .iface, size := 1, bytes := 16, zero := [.if0] }),
  (91, { k := .func, size := 1, bytes := 8, zero := [.fn0] }),
  (92, { k := .func, size := 1, bytes := 8, zero := [.fn0] }),
  (93, { k := .array 24 5, size := 24, bytes := 24, zero := [.int .u8 0, .int .u8 0, .int .u8 0, .int .u8 0, .int .u8 0, .int .u8 0, .int .u8 0, .int .u8 0, .int .u8 0, .int .u8 0, .int .u8 0, .int .u8 0, .int .u8 0, .int .u8 0, .int .u8 0, .int .u8 0, .int .u8 0, .int .u8 0, .int .u8 0, .int .u8 0, .int .u8 0, .int .u8 0, .int .u8 0, .int .u8 0] }),
  (94, { k := .int .u64, size := 1, bytes := 8, zero := [.int .u64 0] }),
  (95, { k := .func, size := 1, bytes := 8, zero := [.fn0] }),
  (96, { k := .func, size := 1, bytes := 8, zero := [.fn0] }),
  (98, { k := .func, size := 1, bytes := 8, zero := [.fn0] }),
  (99, { k := .func, size := 1, bytes := 8, zero := [.fn0] }),
  (100, { k := .func, size := 1, bytes := 8, zero := [.fn0] }),
  (101, { k := .array 20 94, size := 20, bytes := 160, zero := [.int .u64 0, .int .u64 0, .int .u64 0, .int .u64 0, .int .u64 0, .int .u64 0, .int .u64 0, .int .u64 0, .int .u64 0, .int .u64 0, .int .u64 0, .int .u64 0, .int .u64 0, .int .u64 0, .int .u64 0, .int .u64 0, .int .u64 0, .int .u64 0, .int .u64 0, .int .u64 0] }),
  (102, { k := .int .u32, size := 1, bytes := 4, zero := [.int .u32 0] }),
  (103, { k := .array 65 5, size := 65, bytes := 65, zero := [.int .u8 0, .int .u8 0, .int .u8 0, .int .u8 0, .int .u8 0, .int .u8 0, .int .u8 0, .int .u8 0, .int .u8 0, .int .u8 0, .int .u8 0, .int .u8 0, .int .u8 0, .int .u8 0, .int .u8 0, .int .u8 0, .int .u8 0, .int .u8 0, .int .u8 0, .int .u8 0, .int .u8 0, .int .u8 0, .int .u8 0, .int .u8 0, .int .u8 0, .int .u8 0, .int .u8 0, .int .u8 0, .int .u8 0, .int .u8 0, .int .u8 0, .int .u8 0, .int .u8 0, .int .u8 0, .int .u8 0, .int .u8 0, .int .u8 0, .int .u8 0, .int .u8 0, .int .u8 0, .int .u8 0, .int .u8 0, .int .u8 0, .int .u8 0, .int .u8 0, .int .u8 0, .int .u8 0, .int .u8 0, .int .u8 0, .int .u8 0, .int .u8 0, .int .u8 0, .int .u8 0, .int .u8 0, .int .u8 0, .int .u8 0, .int .u8 0, .int .u8 0, .int .u8 0, .int .u8 0, .int .u8 0, .int .u8 0, .int .u8 0, .int .u8 0, .int .u8 0] }),
  (104, { k := .func, size := 1, bytes := 8, zero := [.fn0] }),
  (105, { k := .func, size := 1, bytes := 8, zero := [.fn0] }),
  (106, { k := .func, size := 1, bytes := 8, zero := [.fn0] }),
  (107, { k := .array 32 5, size := 32, bytes := 32, zero := [.int .u8 0, .int .u8 0, .int .u8 0, .int .u8 0, .int .u8 0, .int .u8 0, .int .u8 0, .int .u8 0, .int .u8 0, .int .u8 0, .int .u8 0, .int .u8 0, .int .u8 0, .int .u8 0, .int .u8 0, .int .u8 0, .int .u8 0, .int .u8 0, .int .u8 0, .int .u8 0, .int .u8 0, .int .u8 0, .int .u8 0, .int .u8 0, .int .u8 0, .int .u8 0, .int .u8 0, .int .u8 0, .int .u8 0, .int .u8 0, .int .u8 0, .int .u8 0] }),
  (108, { k := .array 64 5, size := 64, bytes := 64, zero := [.int .u8 0, .int .u8 0, .int .u8 0, .int .u8 0, .int .u8 0, .int .u8 0, .int .u8 0, .int .u8 0, .int .u8 0, .int .u8 0, .int .u8 0, .int .u8 0, .int .u8 0, .int .u8 0, .int .u8 0, .int .u8 0, .int .u8 0, .int .u8 0, .int .u8 0, .int .u8 0, .int .u8 0, .int .u8 0, .int .u8 0, .int .u8 0, .int .u8 0, .int .u8 0, .int .u8 0, .int .u8 0, .int .u8 0, .int .u8 0, .int .u8 0, .int .u8 0, .int .u8 0, .int .u8 0, .int .u8 0, .int .u8 0, .int .u8 0, .int .u8 0, .int .u8 0, .int .u8 0, .int .u8 0, .int .u8 0, .int .u8 0, .int .u8 0, .int .u8 0, .int .u8 0, .int .u8 0, .int .u8 0, .int .u8 0, .int .u8 0, .int .u8 0, .int .u8 0, .int .u8 0, .int .u8 0, .int .u8 0, .int .u8 0, .int .u8 0, .int .u8 0, .int .u8 0, .int .u8 0, .int .u8 0, .int .u8 0, .int .u8 0, .int .u8 0] }),
  (117, { k := .pointer 5, size := 1, bytes := 8, zero := [.ptr0] }),
  (128, { k := .int .u16, size := 1, bytes := 2, zero := [.int .u16 0] }),
  (135, { k := .pointer 25, size := 1, bytes := 8, zero := [.ptr0] })]
set_option maxRecDepth 100000 in
theorem tabOK : TabOK Tryd.prog tab := by
  refine ⟨?_, ?_, ?_, ?_, ?_, ?_, ?_, ?_, ?_, ?_, ?_, ?_, ?_, ?_, ?_, ?_, ?_, ?_, ?_, ?_, ?_, ?_, ?_, ?_, ?_, ?_, ?_, ?_, ?_, ?_, ?_, ?_, ?_, ?_, ?_, ?_, ?_, ?_, ?_, ?_, ?_, ?_, ?_, ?_, ?_, ?_, ?_, ?_, ?_, ?_, ?_, ?_, ?_, ?_, ?_, ?_, ?_, ?_, ?_, ?_, ?_, ?_, ?_, ?_, ?_, ?_, ?_, ?_, ?_, ?_, ?_, ?_, ?_, ?_, ?_, ?_, ?_, ?_, ?_, ?_, ?_, ?_, ?_, ?_, ?_, ?_, ?_, trivial⟩
  · exact TyOK.of (d := (.func #[] #[] false)) (by kernel_rfl) (by kernel_rfl) rfl ⟨_, _, _, rfl⟩ (fun h => by cases h)
  · exact TyOK.of (d := (.int .i64)) (by kernel_rfl) (by kernel_rfl) rfl rfl (fun h => by cases h)
  · exact TyOK.of (d := (.int .i64)) (by kernel_rfl) (by kernel_rfl) rfl rfl (fun h => by cases h)
  · exact TyOK.of (d := .bool) (by kernel_rfl) (by kernel_rfl) rfl rfl (fun h => by cases h)
  · exact TyOK.of (d := (.int .u8)) (by kernel_rfl) (by kernel_rfl) rfl rfl (fun h => by cases h)
  · exact TyOK.of (d := .string) (by kernel_rfl) (by kernel_rfl) rfl rfl (fun h => by cases h)
  · exact TyOK.of (d := (.interface #[])) (by kernel_rfl) (by kernel_rfl) rfl ⟨_, rfl⟩ (fun h => by cases h)
  · exact TyOK.of (d := (.int .i32)) (by kernel_rfl) (by kernel_rfl) rfl rfl (fun h => by cases h)
  · exact TyOK.of (d := (.slice 48)) (by kernel_rfl) (by kernel_rfl) rfl rfl (fun h => by cases h)
  · exact TyOK.of (d := (.func #[] #[4] false)) (by kernel_rfl) (by kernel_rfl) rfl ⟨_, _, _, rfl⟩ (fun h => by cases h)
  · exact TyOK.of (d := (.interface #[("Error", 42)])) (by kernel_rfl) (by kernel_rfl) rfl ⟨_, rfl⟩ (fun h => by cases h)
  · exact TyOK.of (d := (.interface #[("Error", 42)])) (by kernel_rfl) (by kernel_rfl) rfl ⟨_, rfl⟩ (fun h => by cases h)
  · exact TyOK.of (d := (.struct (Tryd.prog.fieldsOf 26))) (by kernel_rfl) (by kernel_rfl) rfl ⟨_, rfl, by kernel_rfl⟩ (fun h => by cases h)
  · exact TyOK.of (d := (.struct (Tryd.prog.fieldsOf 27))) (by kernel_rfl) (by kernel_rfl) rfl ⟨_, rfl, by kernel_rfl⟩ (fun h => by cases h)
  · exact TyOK.of (d := (.int .i64)) (by kernel_rfl) (by kernel_rfl) rfl rfl (fun h => by cases h)
  · exact TyOK.of (d := (.func #[25] #[28] false)) (by kernel_rfl) (by kernel_rfl) rfl ⟨_, _, _, rfl⟩ (fun h => by cases h)
  · exact TyOK.of (d := (.func #[25] #[3] false)) (by kernel_rfl) (by kernel_rfl) rfl ⟨_, _, _, rfl⟩ (fun h => by cases h)
  · exact TyOK.of (d := (.func #[25] #[9] false)) (by kernel_rfl) (by kernel_rfl) rfl ⟨_, _, _, rfl⟩ (fun h => by cases h)
  · exact TyOK.of (d := (.func #[] #[25] false)) (by kernel_rfl) (by kernel_rfl) rfl ⟨_, _, _, rfl⟩ (fun h => by cases h)
  · exact TyOK.of (d := (.func #[3, 25] #[25] false)) (by kernel_rfl) (by kernel_rfl) rfl ⟨_, _, _, rfl⟩ (fun h => by cases h)
  · exact TyOK.of (d := (.func #[9, 25] #[25] false)) (by kernel_rfl) (by kernel_rfl) rfl ⟨_, _, _, rfl⟩ (fun h => by cases h)
  · exact TyOK.of (d := (.func #[3, 9, 22] #[4] false)) (by kernel_rfl) (by kernel_rfl) rfl ⟨_, _, _, rfl⟩ (fun h => by cases h)
  · exact TyOK.of (d := (.slice 50)) (by kernel_rfl) (by kernel_rfl) rfl rfl (fun h => by cases h)
  · exact TyOK.of (d := (.struct (Tryd.prog.fieldsOf 37))) (by kernel_rfl) (by kernel_rfl) rfl ⟨_, rfl, by kernel_rfl⟩ (fun h => by cases h)
  · exact TyOK.of (d := (.struct (Tryd.prog.fieldsOf 38))) (by kernel_rfl) (by kernel_rfl) rfl ⟨_, rfl, by kernel_rfl⟩ (fun h => by cases h)
  · exact TyOK.of (d := (.func #[3, 22] #[25, 38] false)) (by kernel_rfl) (by kernel_rfl) rfl ⟨_, _, _, rfl⟩ (fun h => by cases h)
  · exact TyOK.of (d := (.func #[] #[3] false)) (by kernel_rfl) (by kernel_rfl) rfl ⟨_, _, _, rfl⟩ (fun h => by cases h)
  · exact TyOK.of (d := (.func #[] #[9] false)) (by kernel_rfl) (by kernel_rfl) rfl ⟨_, _, _, rfl⟩ (fun h => by cases h)
  · exact TyOK.of (d := (.func #[3, 22] #[4] false)) (by kernel_rfl) (by kernel_rfl) rfl ⟨_, _, _, rfl⟩ (fun h => by cases h)
  · exact TyOK.of (d := (.func #[25, 28] #[4] false)) (by kernel_rfl) (by kernel_rfl) rfl ⟨_, _, _, rfl⟩ (fun h => by cases h)
  · exact TyOK.of (d := (.func #[3, 9, 3] #[4] false)) (by kernel_rfl) (by kernel_rfl) rfl ⟨_, _, _, rfl⟩ (fun h => by cases h)
  · exact TyOK.of (d := (.func #[3, 3, 22] #[4] false)) (by kernel_rfl) (by kernel_rfl) rfl ⟨_, _, _, rfl⟩ (fun h => by cases h)
  · exact TyOK.of (d := (.struct (Tryd.prog.fieldsOf 47))) (by kernel_rfl) (by kernel_rfl) rfl ⟨_, rfl, by kernel_rfl⟩ (fun _ => ⟨by kernel_rfl, by kernel_rfl, by kernel_rfl, by kernel_rfl⟩)
  · exact TyOK.of (d := (.struct (Tryd.prog.fieldsOf 48))) (by kernel_rfl) (by kernel_rfl) rfl ⟨_, rfl, by kernel_rfl⟩ (fun _ => ⟨by kernel_rfl, by kernel_rfl, by kernel_rfl, by kernel_rfl⟩)
  · exact TyOK.of (d := (.struct (Tryd.prog.fieldsOf 49))) (by kernel_rfl) (by kernel_rfl) rfl ⟨_, rfl, by kernel_rfl⟩ (fun _ => ⟨by kernel_rfl, by kernel_rfl, by kernel_rfl, by kernel_rfl⟩)
  · exact TyOK.of (d := (.struct (Tryd.prog.fieldsOf 50))) (by kernel_rfl) (by kernel_rfl) rfl ⟨_, rfl, by kernel_rfl⟩ (fun _ => ⟨by kernel_rfl, by kernel_rfl, by kernel_rfl, by kernel_rfl⟩)
  · exact TyOK.of (d := (.func #[3] #[9] false)) (by kernel_rfl) (by kernel_rfl) rfl ⟨_, _, _, rfl⟩ (fun h => by cases h)
  · exact TyOK.of (d := (.func #[3, 22, 3, 9] #[4] false)) (by kernel_rfl) (by kernel_rfl) rfl ⟨_, _, _, rfl⟩ (fun h => by cases h)
  · exact TyOK.of (d := (.func #[25, 20] #[4] false)) (by kernel_rfl) (by kernel_rfl) rfl ⟨_, _, _, rfl⟩ (fun h => by cases h)
  · exact TyOK.of (d := (.pointer 28)) (by kernel_rfl) (by kernel_rfl) rfl rfl (fun h => by cases h)
  · exact TyOK.of (d := (.pointer 27)) (by kernel_rfl) (by kernel_rfl) rfl rfl (fun h => by cases h)
  · exact TyOK.of (d := (.func #[9] #[25] false)) (by kernel_rfl) (by kernel_rfl) rfl ⟨_, _, _, rfl⟩ (fun h => by cases h)
  · exact TyOK.of (d := (.int .u64)) (by kernel_rfl) (by kernel_rfl) rfl rfl (fun h => by cases h)
  · exact TyOK.of (d := (.func #[25, 25] #[4] false)) (by kernel_rfl) (by kernel_rfl) rfl ⟨_, _, _, rfl⟩ (fun h => by cases h)
  · exact TyOK.of (d := (.slice 5)) (by kernel_rfl) (by kernel_rfl) rfl rfl (fun h => by cases h)
  · exact TyOK.of (d := (.int .u64)) (by kernel_rfl) (by kernel_rfl) rfl rfl (fun h => by cases h)
  · exact TyOK.of (d := (.struct (Tryd.prog.fieldsOf 63))) (by kernel_rfl) (by kernel_rfl) rfl ⟨_, rfl, by kernel_rfl⟩ (fun h => by cases h)
  · exact TyOK.of (d := (.func #[20] #[63] false)) (by kernel_rfl) (by kernel_rfl) rfl ⟨_, _, _, rfl⟩ (fun h => by cases h)
  · exact TyOK.of (d := (.interface #[("AssignableTo", 70), ("Comparable", 23), ("Elem", 67), ("Implements", 70), ("Kind", 69), ("Name", 42), ("PkgPath", 42), ("Size", 122), ("String", 42), ("internal/reflectlite.common", 114), ("internal/reflectlite.uncommon", 123)])) (by kernel_rfl) (by kernel_rfl) rfl ⟨_, rfl⟩ (fun h => by cases h)
  · exact TyOK.of (d := (.func #[] #[66] false)) (by kernel_rfl) (by kernel_rfl) rfl ⟨_, _, _, rfl⟩ (fun h => by cases h)
  · exact TyOK.of (d := (.func #[66] #[4] false)) (by kernel_rfl) (by kernel_rfl) rfl ⟨_, _, _, rfl⟩ (fun h => by cases h)
  · exact TyOK.of (d := (.func #[25, 20, 63, 66] #[4] false)) (by kernel_rfl) (by kernel_rfl) rfl ⟨_, _, _, rfl⟩ (fun h => by cases h)
  · exact TyOK.of (d := (.pointer 74)) (by kernel_rfl) (by kernel_rfl) rfl rfl (fun h => by cases h)
  · exact TyOK.of (d := (.struct (Tryd.prog.fieldsOf 73))) (by kernel_rfl) (by kernel_rfl) rfl ⟨_, rfl, by kernel_rfl⟩ (fun _ => ⟨by kernel_rfl, by kernel_rfl, by kernel_rfl, by kernel_rfl⟩)
  · exact TyOK.of (d := (.struct (Tryd.prog.fieldsOf 74))) (by kernel_rfl) (by kernel_rfl) rfl ⟨_, rfl, by kernel_rfl⟩ (fun _ => ⟨by kernel_rfl, by kernel_rfl, by kernel_rfl, by kernel_rfl⟩)
  · exact TyOK.of (d := (.func #[20] #[66] false)) (by kernel_rfl) (by kernel_rfl) rfl ⟨_, _, _, rfl⟩ (fun h => by cases h)
  · exact TyOK.of (d := (.func #[25, 25, 4] #[4] false)) (by kernel_rfl) (by kernel_rfl) rfl ⟨_, _, _, rfl⟩ (fun h => by cases h)
  · exact TyOK.of (d := (.struct (Tryd.prog.fieldsOf 78))) (by kernel_rfl) (by kernel_rfl) rfl ⟨_, rfl, by kernel_rfl⟩ (fun h => by cases h)
  · exact TyOK.of (d := (.func #[] #[63] false)) (by kernel_rfl) (by kernel_rfl) rfl ⟨_, _, _, rfl⟩ (fun h => by cases h)
  · exact TyOK.of (d := (.func #[63] #[] false)) (by kernel_rfl) (by kernel_rfl) rfl ⟨_, _, _, rfl⟩ (fun h => by cases h)
  · exact TyOK.of (d := (.interface #[("As", 84)])) (by kernel_rfl) (by kernel_rfl) rfl ⟨_, rfl⟩ (fun h => by cases h)
  · exact TyOK.of (d := (.func #[20] #[4] false)) (by kernel_rfl) (by kernel_rfl) rfl ⟨_, _, _, rfl⟩ (fun h => by cases h)
  · exact TyOK.of (d := (.interface #[("Unwrap", 32)])) (by kernel_rfl) (by kernel_rfl) rfl ⟨_, rfl⟩ (fun h => by cases h)
  · exact TyOK.of (d := (.interface #[("Unwrap", 88)])) (by kernel_rfl) (by kernel_rfl) rfl ⟨_, rfl⟩ (fun h => by cases h)
  · exact TyOK.of (d := (.slice 25)) (by kernel_rfl) (by kernel_rfl) rfl rfl (fun h => by cases h)
  · exact TyOK.of (d := (.func #[] #[87] false)) (by kernel_rfl) (by kernel_rfl) rfl ⟨_, _, _, rfl⟩ (fun h => by cases h)
  · exact TyOK.of (d := (.interface #[("Is", 91)])) (by kernel_rfl) (by kernel_rfl) rfl ⟨_, rfl⟩ (fun h => by cases h)
  · exact TyOK.of (d := (.func #[25] #[4] false)) (by kernel_rfl) (by kernel_rfl) rfl ⟨_, _, _, rfl⟩ (fun h => by cases h)
  · exact TyOK.of (d := (.func #[2, 3] #[9] false)) (by kernel_rfl) (by kernel_rfl) rfl ⟨_, _, _, rfl⟩ (fun h => by cases h)
  · exact TyOK.of (d := (.array 24 5)) (by kernel_rfl) (by kernel_rfl) rfl rfl (fun h => by cases h)
  · exact TyOK.of (d := (.int .u64)) (by kernel_rfl) (by kernel_rfl) rfl rfl (fun h => by cases h)
  · exact TyOK.of (d := (.func #[94] #[3] false)) (by kernel_rfl) (by kernel_rfl) rfl ⟨_, _, _, rfl⟩ (fun h => by cases h)
  · exact TyOK.of (d := (.func #[59, 94] #[] false)) (by kernel_rfl) (by kernel_rfl) rfl ⟨_, _, _, rfl⟩ (fun h => by cases h)
  · exact TyOK.of (d := (.func #[59, 94, 3, 4, 4] #[59, 9] false)) (by kernel_rfl) (by kernel_rfl) rfl ⟨_, _, _, rfl⟩ (fun h => by cases h)
  · exact TyOK.of (d := (.func #[3] #[3] false)) (by kernel_rfl) (by kernel_rfl) rfl ⟨_, _, _, rfl⟩ (fun h => by cases h)
  · exact TyOK.of (d := (.func #[4] #[3] false)) (by kernel_rfl) (by kernel_rfl) rfl ⟨_, _, _, rfl⟩ (fun h => by cases h)
  · exact TyOK.of (d := (.array 20 94)) (by kernel_rfl) (by kernel_rfl) rfl rfl (fun h => by cases h)
  · exact TyOK.of (d := (.int .u32)) (by kernel_rfl) (by kernel_rfl) rfl rfl (fun h => by cases h)
  · exact TyOK.of (d := (.array 65 5)) (by kernel_rfl) (by kernel_rfl) rfl rfl (fun h => by cases h)
  · exact TyOK.of (d := (.func #[3] #[4] false)) (by kernel_rfl) (by kernel_rfl) rfl ⟨_, _, _, rfl⟩ (fun h => by cases h)
  · exact TyOK.of (d := (.func #[57] #[3] false)) (by kernel_rfl) (by kernel_rfl) rfl ⟨_, _, _, rfl⟩ (fun h => by cases h)
  · exact TyOK.of (d := (.func #[102] #[3] false)) (by kernel_rfl) (by kernel_rfl) rfl ⟨_, _, _, rfl⟩ (fun h => by cases h)
  · exact TyOK.of (d := (.array 32 5)) (by kernel_rfl) (by kernel_rfl) rfl rfl (fun h => by cases h)
  · exact TyOK.of (d := (.array 64 5)) (by kernel_rfl) (by kernel_rfl) rfl rfl (fun h => by cases h)
  · exact TyOK.of (d := (.pointer 5)) (by kernel_rfl) (by kernel_rfl) rfl rfl (fun h => by cases h)
  · exact TyOK.of (d := (.int .u16)) (by kernel_rfl) (by kernel_rfl) rfl rfl (fun h => by cases h)
  · exact TyOK.of (d := (.pointer 25)) (by kernel_rfl) (by kernel_rfl) rfl rfl (fun h => by cases h)
end Go.Proofs.YtfblglnfplpagaaDoor
