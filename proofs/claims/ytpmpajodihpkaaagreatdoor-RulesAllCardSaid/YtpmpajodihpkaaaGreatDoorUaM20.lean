/- The library of this claim and its walks, part 20, joined out of smaller texts. No statement stands in it. -/
import Derived.Test.YtpmpajodihpkaaaGreatDoorUaM17
import Derived.Test.YtpmpajodihpkaaaGreatDoorProg
set_option linter.unusedVariables false
namespace Go.Proofs.YtpmpajodihpkaaaGreatDoor
open Go Go.Proofs Go.Ua
instance : Globs Tryz.prog := ⟨fun b p => (b = 1 ∧ p = fun cs => ∃ m, cs[0]? = some (Value.int .i64 m)) ∨ (b = 0 ∧ p = fun cs => cs = [.iface 112 (.agg #[.pointer (some ⟨2, 31, none⟩)])])⟩
theorem G_err : Globs.G Tryz.prog 0 (fun cs => cs = [.iface 112 (.agg #[.pointer (some ⟨2, 31, none⟩)])]) := (.inr ⟨rfl, rfl⟩)
def tab : Tab := [
 (1, { k := .func, size := 1, bytes := 8, zero := [.fn0] }),
 (2, { k := .int .i64, size := 1, bytes := 8, zero := [.int .i64 0] }),
 (3, { k := .int .i64, size := 1, bytes := 8, zero := [.int .i64 0] }),
 (4, { k := .bool, size := 1, bytes := 1, zero := [.bool false] }),
 (5, { k := .int .u8, size := 1, bytes := 1, zero := [.int .u8 0] }),
 (9, { k := .string, size := 1, bytes := 16, zero := [.str []] }),
 (20, { k := .iface, size := 1, bytes := 16, zero := [.if0] }),
 (21, { k := .int .i32, size := 1, bytes := 4, zero := [.int .i32 0] }),
 (22, { k := .slice 40, size := 1, bytes := 24, zero := [.sl0] }),
 (23, { k := .slice 43, size := 1, bytes := 24, zero := [.sl0] }),
 (24, { k := .struct [(0, 3), (1, 3), (2, 3), (3, 3), (4, 22), (5, 23)], size := 6, bytes := 80, zero := [.int .i64 0, .int .i64 0, .int .i64 0, .int .i64 0, .sl0, .sl0] }),
 (25, { k := .struct [(0, 3), (1, 3), (2, 3), (3, 3), (4, 22), (5, 23)], size := 6, bytes := 80, zero := [.int .i64 0, .int .i64 0, .int .i64 0, .int .i64 0, .sl0, .sl0] }),
 (26, { k := .func, size := 1, bytes := 8, zero := [.fn0] }),
 (27, { k := .func, size := 1, bytes := 8, zero := [.fn0] }),
 (28, { k := .func, size := 1, bytes := 8, zero := [.fn0] }),
 (29, { k := .slice 25, size := 1, bytes := 24, zero := [.sl0] }),
 (30, { k := .iface, size := 1, bytes := 16, zero := [.if0] }),
 (31, { k := .iface, size := 1, bytes := 16, zero := [.if0] }),
 (32, { k := .func, size := 1, bytes := 8, zero := [.fn0] }),
 (34, { k := .func, size := 1, bytes := 8, zero := [.fn0] }),
 (35, { k := .int .i64, size := 1, bytes := 8, zero := [.int .i64 0] }),
 (36, { k := .func, size := 1, bytes := 8, zero := [.fn0] }),
 (37, { k := .func, size := 1, bytes := 8, zero := [.fn0] }),
 (38, { k := .func, size := 1, bytes := 8, zero := [.fn0] }),
 (39, { k := .struct [(0, 9), (1, 3), (2, 3), (3, 3), (4, 3), (5, 3), (6, 3), (7, 3), (8, 3), (9, 3)], size := 10, bytes := 88, zero := [.str [], .int .i64 0, .int .i64 0, .int .i64 0, .int .i64 0, .int .i64 0, .int .i64 0, .int .i64 0, .int .i64 0, .int .i64 0], eq := true }),
 (40, { k := .struct [(0, 9), (1, 3), (2, 3), (3, 3), (4, 3), (5, 3), (6, 3), (7, 3), (8, 3), (9, 3)], size := 10, bytes := 88, zero := [.str [], .int .i64 0, .int .i64 0, .int .i64 0, .int .i64 0, .int .i64 0, .int .i64 0, .int .i64 0, .int .i64 0, .int .i64 0], eq := true }),
 (41, { k := .slice 46, size := 1, bytes := 24, zero := [.sl0] }),
 (42, { k := .struct [(0, 9), (1, 9), (2, 3), (3, 3), (4, 41)], size := 5, bytes := 72, zero := [.str [], .str [], .int .i64 0, .int .i64 0, .sl0] }),
 (43, { k := .struct [(0, 9), (1, 9), (2, 3), (3, 3), (4, 41)], size := 5, bytes := 72, zero := [.str [], .str [], .int .i64 0, .int .i64 0, .sl0] }),
 (44, { k := .slice 9, size := 1, bytes := 24, zero := [.sl0] }),
 (45, { k := .struct [(0, 44), (1, 44), (2, 44), (3, 44), (4, 44)], size := 5, bytes := 120, zero := [.sl0, .sl0, .sl0, .sl0, .sl0] }),
 (46, { k := .struct [(0, 44), (1, 44), (2, 44), (3, 44), (4, 44)], size := 5, bytes := 120, zero := [.sl0, .sl0, .sl0, .sl0, .sl0] }),
 (47, { k := .slice 44, size := 1, bytes := 24, zero := [.sl0] }),
 (48, { k := .func, size := 1, bytes := 8, zero := [.fn0] }),
 (49, { k := .map 9 3, size := 1, bytes := 8, zero := [.map0] }),
 (50, { k := .func, size := 1, bytes := 8, zero := [.fn0] }),
 (51, { k := .func, size := 1, bytes := 8, zero := [.fn0] }),
 (52, { k := .func, size := 1, bytes := 8, zero := [.fn0] }),
 (53, { k := .func, size := 1, bytes := 8, zero := [.fn0] }),
 (54, { k := .struct [(0, 9), (1, 3)], size := 2, bytes := 24, zero := [.str [], .int .i64 0], eq := true }),
 (55, { k := .array 3 54, size := 6, bytes := 72, zero := [.str [], .int .i64 0, .str [], .int .i64 0, .str [], .int .i64 0] }),
 (56, { k := .func, size := 1, bytes := 8, zero := [.fn0] }),
 (57, { k := .func, size := 1, bytes := 8, zero := [.fn0] }),
 (58, { k := .array 2 4, size := 2, bytes := 2, zero := [.bool false, .bool false] }),
 (59, { k := .int .u64, size := 1, bytes := 8, zero := [.int .u64 0] }),
 (61, { k := .func, size := 1, bytes := 8, zero := [.fn0] }),
 (62, { k := .func, size := 1, bytes := 8, zero := [.fn0] }),
 (63, { k := .array 2 9, size := 2, bytes := 32, zero := [.str [], .str []] }),
 (64, { k := .func, size := 1, bytes := 8, zero := [.fn0] }),
 (65, { k := .pointer 35, size := 1, bytes := 8, zero := [.ptr0] }),
 (66, { k := .struct [(0, 3), (1, 9), (2, 31)], size := 3, bytes := 40, zero := [.int .i64 0, .str [], .if0] }),
 (67, { k := .struct [(0, 3), (1, 9), (2, 31)], size := 3, bytes := 40, zero := [.int .i64 0, .str [], .if0] }),
 (68, { k := .pointer 67, size := 1, bytes := 8, zero := [.ptr0] }),
 (69, { k := .func, size := 1, bytes := 8, zero := [.fn0] }),
 (70, { k := .func, size := 1, bytes := 8, zero := [.fn0] }),
 (71, { k := .func, size := 1, bytes := 8, zero := [.fn0] }),
 (72, { k := .func, size := 1, bytes := 8, zero := [.fn0] }),
 (74, { k := .func, size := 1, bytes := 8, zero := [.fn0] }),
 (75, { k := .func, size := 1, bytes := 8, zero := [.fn0] }),
 (76, { k := .func, size := 1, bytes := 8, zero := [.fn0] }),
 (77, { k := .func, size := 1, bytes := 8, zero := [.fn0] }),
 (78, { k := .func, size := 1, bytes := 8, zero := [.fn0] }),
 (79, { k := .func, size := 1, bytes := 8, zero := [.fn0] }),
 (81, { k := .func, size := 1, bytes := 8, zero := [.fn0] }),
 (82, { k := .func, size := 1, bytes := 8, zero := [.fn0] }),
 (84, { k := .int .u64, size := 1, bytes := 8, zero := [.int .u64 0] }),
 (86, { k := .struct [(0, 17), (1, 83), (2, 84)], size := 3, bytes := 24, zero := [.ptr0, .ptr0, .int .u64 0] }),
 (87, { k := .func, size := 1, bytes := 8, zero := [.fn0] }),
 (89, { k := .iface, size := 1, bytes := 16, zero := [.if0] }),
 (90, { k := .func, size := 1, bytes := 8, zero := [.fn0] }),
 (93, { k := .func, size := 1, bytes := 8, zero := [.fn0] }),
 (94, { k := .func, size := 1, bytes := 8, zero := [.fn0] }),
 (95, { k := .func, size := 1, bytes := 8, zero := [.fn0] }),
 (96, { k := .func, size := 1, bytes := 8, zero := [.fn0] }),
 (97, { k := .array 5 44, size := 5, bytes := 120, zero := [.sl0, .sl0, .sl0, .sl0, .sl0] }),
 (98, { k := .func, size := 1, bytes := 8, zero := [.fn0] }),
 (99, { k := .func, size := 1, bytes := 8, zero := [.fn0] }),
 (100, { k := .func, size := 1, bytes := 8, zero := [.fn0] }),
 (101, { k := .func, size := 1, bytes := 8, zero := [.fn0] }),
 (102, { k := .func, size := 1, bytes := 8, zero := [.fn0] }),
 (103, { k := .func, size := 1, bytes := 8, zero := [.fn0] }),
 (104, { k := .array 3 9, size := 3, bytes := 48, zero := [.str [], .str [], .str []] }),
 (105, { k := .slice 3, size := 1, bytes := 24, zero := [.sl0] }),
 (107, { k := .func, size := 1, bytes := 8, zero := [.fn0] }),
 (108, { k := .array 2 3, size := 2, bytes := 16, zero := [.int .i64 0, .int .i64 0] }),
 (109, { k := .slice 108, size := 1, bytes := 24, zero := [.sl0] }),
 (110, { k := .func, size := 1, bytes := 8, zero := [.fn0] }),
 (112, { k := .struct [(0, 17)], size := 1, bytes := 8, zero := [.ptr0] }),
 (114, { k := .func, size := 1, bytes := 8, zero := [.fn0] }),
 (115, { k := .func, size := 1, bytes := 8, zero := [.fn0] }),
 (116, { k := .func, size := 1, bytes := 8, zero := [.fn0] }),
 (117, { k := .iface, size := 1, bytes := 16, zero := [.if0] }),
 (119, { k := .func, size := 1, bytes := 8, zero := [.fn0] }),
 (120, { k := .iface, size := 1, bytes := 16, zero := [.if0] }),
 (121, { k := .func, size := 1, bytes := 8, zero := [.fn0] }),
 (122, { k := .iface, size := 1, bytes := 16, zero := [.if0] }),
 (123, { k := .slice 31, size := 1, bytes := 24, zero := [.sl0] }),
 (124, { k := .func, size := 1, bytes := 8, zero := [.fn0] }),
 (125, { k := .func, size := 1, bytes := 8, zero := [.fn0] }),
 (126, { k := .func, size := 1, bytes := 8, zero := [.fn0] }),
 (127, { k := .func, size := 1, bytes := 8, zero := [.fn0] }),
 (129, { k := .func, size := 1, bytes := 8, zero := [.fn0] }),
 (130, { k := .array 5 3, size := 5, bytes := 40, zero := [.int .i64 0, .int .i64 0, .int .i64 0, .int .i64 0, .int .i64 0] }),
 (132, { k := .func, size := 1, bytes := 8, zero := [.fn0] }),
 (133, { k := .func, size := 1, bytes := 8, zero := [.fn0] }),
 (134, { k := .pointer 137, size := 1, bytes := 8, zero := [.ptr0] }),
 (135, { k := .slice 5, size := 1, bytes := 24, zero := [.sl0] }),
 (136, { k := .struct [(0, 134), (1, 135)], size := 2, bytes := 32, zero := [.ptr0, .sl0] }),
 (137, { k := .struct [(0, 134), (1, 135)], size := 2, bytes := 32, zero := [.ptr0, .sl0] }),
 (138, { k := .func, size := 1, bytes := 8, zero := [.fn0] }),
 (140, { k := .func, size := 1, bytes := 8, zero := [.fn0] }),
 (141, { k := .func, size := 1, bytes := 8, zero := [.fn0] }),
 (142, { k := .func, size := 1, bytes := 8, zero := [.fn0] }),
 (143, { k := .func, size := 1, bytes := 8, zero := [.fn0] }),
 (144, { k := .pointer 5, size := 1, bytes := 8, zero := [.ptr0] }),
 (146, { k := .func, size := 1, bytes := 8, zero := [.fn0] }),
 (152, { k := .func, size := 1, bytes := 8, zero := [.fn0] }),
 (154, { k := .int .u32, size := 1, bytes := 4, zero := [.int .u32 0] }),
 (167, { k := .int .u16, size := 1, bytes := 2, zero := [.int .u16 0] }),
 (174, { k := .pointer 31, size := 1, bytes := 8, zero := [.ptr0] })]
set_option maxRecDepth 100000 in
theorem tabOK : TabOK Tryz.prog tab := by
 refine ⟨?_, ?_, ?_, ?_, ?_, ?_, ?_, ?_, ?_, ?_, ?_, ?_, ?_, ?_, ?_, ?_, ?_, ?_, ?_, ?_, ?_, ?_, ?_, ?_, ?_, ?_, ?_, ?_, ?_, ?_, ?_, ?_, ?_, ?_, ?_, ?_, ?_, ?_, ?_, ?_, ?_, ?_, ?_, ?_, ?_, ?_, ?_, ?_, ?_, ?_, ?_, ?_, ?_, ?_, ?_, ?_, ?_, ?_, ?_, ?_, ?_, ?_, ?_, ?_, ?_, ?_, ?_, ?_, ?_, ?_, ?_, ?_, ?_, ?_, ?_, ?_, ?_, ?_, ?_, ?_, ?_, ?_, ?_, ?_, ?_, ?_, ?_, ?_, ?_, ?_, ?_, ?_, ?_, ?_, ?_, ?_, ?_, ?_, ?_, ?_, ?_, ?_, ?_, ?_, ?_, ?_, ?_, ?_, ?_, ?_, ?_, ?_, ?_, ?_, ?_, ?_, ?_, ?_, ?_, ?_, trivial⟩
 · exact TyOK.of (d := (.func #[] #[] false)) (by kernel_rfl) (by kernel_rfl) rfl ⟨_, _, _, rfl⟩ (fun h => by cases h)
 · exact TyOK.of (d := (.int .i64)) (by kernel_rfl) (by kernel_rfl) rfl rfl (fun h => by cases h)
 · exact TyOK.of (d := (.int .i64)) (by kernel_rfl) (by kernel_rfl) rfl rfl (fun h => by cases h)
 · exact TyOK.of (d := .bool) (by kernel_rfl) (by kernel_rfl) rfl rfl (fun h => by cases h)
 · exact TyOK.of (d := (.int .u8)) (by kernel_rfl) (by kernel_rfl) rfl rfl (fun h => by cases h)
 · exact TyOK.of (d := .string) (by kernel_rfl) (by kernel_rfl) rfl rfl (fun h => by cases h)
 · exact TyOK.of (d := (.interface #[])) (by kernel_rfl) (by kernel_rfl) rfl ⟨_, rfl⟩ (fun h => by cases h)
 · exact TyOK.of (d := (.int .i32)) (by kernel_rfl) (by kernel_rfl) rfl rfl (fun h => by cases h)
 · exact TyOK.of (d := (.slice 40)) (by kernel_rfl) (by kernel_rfl) rfl rfl (fun h => by cases h)
 · exact TyOK.of (d := (.slice 43)) (by kernel_rfl) (by kernel_rfl) rfl rfl (fun h => by cases h)
 · exact TyOK.of (d := (.struct (Tryz.prog.fieldsOf 24))) (by kernel_rfl) (by kernel_rfl) rfl ⟨_, rfl, by kernel_rfl⟩ (fun h => by cases h)
 · exact TyOK.of (d := (.struct (Tryz.prog.fieldsOf 25))) (by kernel_rfl) (by kernel_rfl) rfl ⟨_, rfl, by kernel_rfl⟩ (fun h => by cases h)
 · exact TyOK.of (d := (.func #[] #[4] false)) (by kernel_rfl) (by kernel_rfl) rfl ⟨_, _, _, rfl⟩ (fun h => by cases h)
 · exact TyOK.of (d := (.func #[25] #[4] false)) (by kernel_rfl) (by kernel_rfl) rfl ⟨_, _, _, rfl⟩ (fun h => by cases h)
 · exact TyOK.of (d := (.func #[25] #[25] false)) (by kernel_rfl) (by kernel_rfl) rfl ⟨_, _, _, rfl⟩ (fun h => by cases h)
 · exact TyOK.of (d := (.slice 25)) (by kernel_rfl) (by kernel_rfl) rfl rfl (fun h => by cases h)
 · exact TyOK.of (d := (.interface #[("Error", 141)])) (by kernel_rfl) (by kernel_rfl) rfl ⟨_, rfl⟩ (fun h => by cases h)
 · exact TyOK.of (d := (.interface #[("Error", 141)])) (by kernel_rfl) (by kernel_rfl) rfl ⟨_, rfl⟩ (fun h => by cases h)
 · exact TyOK.of (d := (.func #[25] #[31] false)) (by kernel_rfl) (by kernel_rfl) rfl ⟨_, _, _, rfl⟩ (fun h => by cases h)
 · exact TyOK.of (d := (.func #[25] #[3, 9] false)) (by kernel_rfl) (by kernel_rfl) rfl ⟨_, _, _, rfl⟩ (fun h => by cases h)
 · exact TyOK.of (d := (.int .i64)) (by kernel_rfl) (by kernel_rfl) rfl rfl (fun h => by cases h)
 · exact TyOK.of (d := (.func #[31] #[35] false)) (by kernel_rfl) (by kernel_rfl) rfl ⟨_, _, _, rfl⟩ (fun h => by cases h)
 · exact TyOK.of (d := (.func #[31] #[9] false)) (by kernel_rfl) (by kernel_rfl) rfl ⟨_, _, _, rfl⟩ (fun h => by cases h)
 · exact TyOK.of (d := (.func #[25, 25] #[4] false)) (by kernel_rfl) (by kernel_rfl) rfl ⟨_, _, _, rfl⟩ (fun h => by cases h)
 · exact TyOK.of (d := (.struct (Tryz.prog.fieldsOf 39))) (by kernel_rfl) (by kernel_rfl) rfl ⟨_, rfl, by kernel_rfl⟩ (fun _ => ⟨by kernel_rfl, by kernel_rfl, by kernel_rfl, by kernel_rfl⟩)
 · exact TyOK.of (d := (.struct (Tryz.prog.fieldsOf 40))) (by kernel_rfl) (by kernel_rfl) rfl ⟨_, rfl, by kernel_rfl⟩ (fun _ => ⟨by kernel_rfl, by kernel_rfl, by kernel_rfl, by kernel_rfl⟩)
 · exact TyOK.of (d := (.slice 46)) (by kernel_rfl) (by kernel_rfl) rfl rfl (fun h => by cases h)
 · exact TyOK.of (d := (.struct (Tryz.prog.fieldsOf 42))) (by kernel_rfl) (by kernel_rfl) rfl ⟨_, rfl, by kernel_rfl⟩ (fun h => by cases h)
 · exact TyOK.of (d := (.struct (Tryz.prog.fieldsOf 43))) (by kernel_rfl) (by kernel_rfl) rfl ⟨_, rfl, by kernel_rfl⟩ (fun h => by cases h)
 · exact TyOK.of (d := (.slice 9)) (by kernel_rfl) (by kernel_rfl) rfl rfl (fun h => by cases h)
 · exact TyOK.of (d := (.struct (Tryz.prog.fieldsOf 45))) (by kernel_rfl) (by kernel_rfl) rfl ⟨_, rfl, by kernel_rfl⟩ (fun h => by cases h)
 · exact TyOK.of (d := (.struct (Tryz.prog.fieldsOf 46))) (by kernel_rfl) (by kernel_rfl) rfl ⟨_, rfl, by kernel_rfl⟩ (fun h => by cases h)
 · exact TyOK.of (d := (.slice 44)) (by kernel_rfl) (by kernel_rfl) rfl rfl (fun h => by cases h)
 · exact TyOK.of (d := (.func #[3, 3] #[3] false)) (by kernel_rfl) (by kernel_rfl) rfl ⟨_, _, _, rfl⟩ (fun h => by cases h)
 · exact TyOK.of (d := (.map 9 3)) (by kernel_rfl) (by kernel_rfl) rfl rfl (fun h => by cases h)
 · exact TyOK.of (d := (.func #[43] #[43] false)) (by kernel_rfl) (by kernel_rfl) rfl ⟨_, _, _, rfl⟩ (fun h => by cases h)
 · exact TyOK.of (d := (.func #[] #[44] false)) (by kernel_rfl) (by kernel_rfl) rfl ⟨_, _, _, rfl⟩ (fun h => by cases h)
 · exact TyOK.of (d := (.func #[44] #[44] false)) (by kernel_rfl) (by kernel_rfl) rfl ⟨_, _, _, rfl⟩ (fun h => by cases h)
 · exact TyOK.of (d := (.func #[9, 31] #[31] false)) (by kernel_rfl) (by kernel_rfl) rfl ⟨_, _, _, rfl⟩ (fun h => by cases h)
 · exact TyOK.of (d := (.struct (Tryz.prog.fieldsOf 54))) (by kernel_rfl) (by kernel_rfl) rfl ⟨_, rfl, by kernel_rfl⟩ (fun _ => ⟨by kernel_rfl, by kernel_rfl, by kernel_rfl, by kernel_rfl⟩)
 · exact TyOK.of (d := (.array 3 54)) (by kernel_rfl) (by kernel_rfl) rfl rfl (fun h => by cases h)
 · exact TyOK.of (d := (.func #[40] #[35] false)) (by kernel_rfl) (by kernel_rfl) rfl ⟨_, _, _, rfl⟩ (fun h => by cases h)
 · exact TyOK.of (d := (.func #[43, 22] #[35] false)) (by kernel_rfl) (by kernel_rfl) rfl ⟨_, _, _, rfl⟩ (fun h => by cases h)
 · exact TyOK.of (d := (.array 2 4)) (by kernel_rfl) (by kernel_rfl) rfl rfl (fun h => by cases h)
 · exact TyOK.of (d := (.int .u64)) (by kernel_rfl) (by kernel_rfl) rfl rfl (fun h => by cases h)
 · exact TyOK.of (d := (.func #[3, 3] #[59, 3] false)) (by kernel_rfl) (by kernel_rfl) rfl ⟨_, _, _, rfl⟩ (fun h => by cases h)
 · exact TyOK.of (d := (.func #[44] #[4] false)) (by kernel_rfl) (by kernel_rfl) rfl ⟨_, _, _, rfl⟩ (fun h => by cases h)
 · exact TyOK.of (d := (.array 2 9)) (by kernel_rfl) (by kernel_rfl) rfl rfl (fun h => by cases h)
 · exact TyOK.of (d := (.func #[31, 20] #[4] false)) (by kernel_rfl) (by kernel_rfl) rfl ⟨_, _, _, rfl⟩ (fun h => by cases h)
 · exact TyOK.of (d := (.pointer 35)) (by kernel_rfl) (by kernel_rfl) rfl rfl (fun h => by cases h)
 · exact TyOK.of (d := (.struct (Tryz.prog.fieldsOf 66))) (by kernel_rfl) (by kernel_rfl) rfl ⟨_, rfl, by kernel_rfl⟩ (fun h => by cases h)
 · exact TyOK.of (d := (.struct (Tryz.prog.fieldsOf 67))) (by kernel_rfl) (by kernel_rfl) rfl ⟨_, rfl, by kernel_rfl⟩ (fun h => by cases h)
 · exact TyOK.of (d := (.pointer 67)) (by kernel_rfl) (by kernel_rfl) rfl rfl (fun h => by cases h)
 · exact TyOK.of (d := (.func #[41, 41] #[4] false)) (by kernel_rfl) (by kernel_rfl) rfl ⟨_, _, _, rfl⟩ (fun h => by cases h)
 · exact TyOK.of (d := (.func #[3, 3, 3] #[4] false)) (by kernel_rfl) (by kernel_rfl) rfl ⟨_, _, _, rfl⟩ (fun h => by cases h)
 · exact TyOK.of (d := (.func #[40] #[4] false)) (by kernel_rfl) (by kernel_rfl) rfl ⟨_, _, _, rfl⟩ (fun h => by cases h)
 · exact TyOK.of (d := (.func #[43] #[4] false)) (by kernel_rfl) (by kernel_rfl) rfl ⟨_, _, _, rfl⟩ (fun h => by cases h)
 · exact TyOK.of (d := (.func #[3, 3] #[59, 35] false)) (by kernel_rfl) (by kernel_rfl) rfl ⟨_, _, _, rfl⟩ (fun h => by cases h)
 · exact TyOK.of (d := (.func #[22, 9] #[4] false)) (by kernel_rfl) (by kernel_rfl) rfl ⟨_, _, _, rfl⟩ (fun h => by cases h)
 · exact TyOK.of (d := (.func #[41, 77] #[4] false)) (by kernel_rfl) (by kernel_rfl) rfl ⟨_, _, _, rfl⟩ (fun h => by cases h)
 · exact TyOK.of (d := (.func #[46] #[4] false)) (by kernel_rfl) (by kernel_rfl) rfl ⟨_, _, _, rfl⟩ (fun h => by cases h)
 · exact TyOK.of (d := (.func #[23, 72] #[4] false)) (by kernel_rfl) (by kernel_rfl) rfl ⟨_, _, _, rfl⟩ (fun h => by cases h)
 · exact TyOK.of (d := (.func #[25] #[44] false)) (by kernel_rfl) (by kernel_rfl) rfl ⟨_, _, _, rfl⟩ (fun h => by cases h)
 · exact TyOK.of (d := (.func #[25, 44] #[25, 3] false)) (by kernel_rfl) (by kernel_rfl) rfl ⟨_, _, _, rfl⟩ (fun h => by cases h)
 · exact TyOK.of (d := (.func #[9] #[44] false)) (by kernel_rfl) (by kernel_rfl) rfl ⟨_, _, _, rfl⟩ (fun h => by cases h)
 · exact TyOK.of (d := (.int .u64)) (by kernel_rfl) (by kernel_rfl) rfl rfl (fun h => by cases h)
 · exact TyOK.of (d := (.struct (Tryz.prog.fieldsOf 86))) (by kernel_rfl) (by kernel_rfl) rfl ⟨_, rfl, by kernel_rfl⟩ (fun h => by cases h)
 · exact TyOK.of (d := (.func #[20] #[86] false)) (by kernel_rfl) (by kernel_rfl) rfl ⟨_, _, _, rfl⟩ (fun h => by cases h)
 · exact TyOK.of (d := (.interface #[("AssignableTo", 93), ("Comparable", 26), ("Elem", 90), ("Implements", 93), ("Kind", 92), ("Name", 141), ("PkgPath", 141), ("Size", 161), ("String", 141), ("internal/reflectlite.common", 153), ("internal/reflectlite.uncommon", 162)])) (by kernel_rfl) (by kernel_rfl) rfl ⟨_, rfl⟩ (fun h => by cases h)
 · exact TyOK.of (d := (.func #[] #[89] false)) (by kernel_rfl) (by kernel_rfl) rfl ⟨_, _, _, rfl⟩ (fun h => by cases h)
 · exact TyOK.of (d := (.func #[89] #[4] false)) (by kernel_rfl) (by kernel_rfl) rfl ⟨_, _, _, rfl⟩ (fun h => by cases h)
 · exact TyOK.of (d := (.func #[31, 20, 86, 89] #[4] false)) (by kernel_rfl) (by kernel_rfl) rfl ⟨_, _, _, rfl⟩ (fun h => by cases h)
 · exact TyOK.of (d := (.func #[44, 44] #[4] false)) (by kernel_rfl) (by kernel_rfl) rfl ⟨_, _, _, rfl⟩ (fun h => by cases h)
 · exact TyOK.of (d := (.func #[9] #[4] false)) (by kernel_rfl) (by kernel_rfl) rfl ⟨_, _, _, rfl⟩ (fun h => by cases h)
 · exact TyOK.of (d := (.array 5 44)) (by kernel_rfl) (by kernel_rfl) rfl rfl (fun h => by cases h)
 · exact TyOK.of (d := (.func #[46] #[97] false)) (by kernel_rfl) (by kernel_rfl) rfl ⟨_, _, _, rfl⟩ (fun h => by cases h)
 · exact TyOK.of (d := (.func #[44] #[9] false)) (by kernel_rfl) (by kernel_rfl) rfl ⟨_, _, _, rfl⟩ (fun h => by cases h)
 · exact TyOK.of (d := (.func #[22, 71] #[4] false)) (by kernel_rfl) (by kernel_rfl) rfl ⟨_, _, _, rfl⟩ (fun h => by cases h)
 · exact TyOK.of (d := (.func #[41, 77] #[3] false)) (by kernel_rfl) (by kernel_rfl) rfl ⟨_, _, _, rfl⟩ (fun h => by cases h)
 · exact TyOK.of (d := (.func #[23, 72] #[3] false)) (by kernel_rfl) (by kernel_rfl) rfl ⟨_, _, _, rfl⟩ (fun h => by cases h)
 · exact TyOK.of (d := (.func #[3] #[9] false)) (by kernel_rfl) (by kernel_rfl) rfl ⟨_, _, _, rfl⟩ (fun h => by cases h)
 · exact TyOK.of (d := (.array 3 9)) (by kernel_rfl) (by kernel_rfl) rfl rfl (fun h => by cases h)
 · exact TyOK.of (d := (.slice 3)) (by kernel_rfl) (by kernel_rfl) rfl rfl (fun h => by cases h)
 · exact TyOK.of (d := (.func #[44, 3, 109] #[105, 3] false)) (by kernel_rfl) (by kernel_rfl) rfl ⟨_, _, _, rfl⟩ (fun h => by cases h)
 · exact TyOK.of (d := (.array 2 3)) (by kernel_rfl) (by kernel_rfl) rfl rfl (fun h => by cases h)
 · exact TyOK.of (d := (.slice 108)) (by kernel_rfl) (by kernel_rfl) rfl rfl (fun h => by cases h)
 · exact TyOK.of (d := (.func #[9, 5] #[44] false)) (by kernel_rfl) (by kernel_rfl) rfl ⟨_, _, _, rfl⟩ (fun h => by cases h)
 · exact TyOK.of (d := (.struct (Tryz.prog.fieldsOf 112))) (by kernel_rfl) (by kernel_rfl) rfl ⟨_, rfl, by kernel_rfl⟩ (fun h => by cases h)
 · exact TyOK.of (d := (.func #[20] #[89] false)) (by kernel_rfl) (by kernel_rfl) rfl ⟨_, _, _, rfl⟩ (fun h => by cases h)
 · exact TyOK.of (d := (.func #[] #[86] false)) (by kernel_rfl) (by kernel_rfl) rfl ⟨_, _, _, rfl⟩ (fun h => by cases h)
 · exact TyOK.of (d := (.func #[86] #[] false)) (by kernel_rfl) (by kernel_rfl) rfl ⟨_, _, _, rfl⟩ (fun h => by cases h)
 · exact TyOK.of (d := (.interface #[("As", 119)])) (by kernel_rfl) (by kernel_rfl) rfl ⟨_, rfl⟩ (fun h => by cases h)
 · exact TyOK.of (d := (.func #[20] #[4] false)) (by kernel_rfl) (by kernel_rfl) rfl ⟨_, _, _, rfl⟩ (fun h => by cases h)
 · exact TyOK.of (d := (.interface #[("Unwrap", 121)])) (by kernel_rfl) (by kernel_rfl) rfl ⟨_, rfl⟩ (fun h => by cases h)
 · exact TyOK.of (d := (.func #[] #[31] false)) (by kernel_rfl) (by kernel_rfl) rfl ⟨_, _, _, rfl⟩ (fun h => by cases h)
 · exact TyOK.of (d := (.interface #[("Unwrap", 124)])) (by kernel_rfl) (by kernel_rfl) rfl ⟨_, rfl⟩ (fun h => by cases h)
 · exact TyOK.of (d := (.slice 31)) (by kernel_rfl) (by kernel_rfl) rfl rfl (fun h => by cases h)
 · exact TyOK.of (d := (.func #[] #[123] false)) (by kernel_rfl) (by kernel_rfl) rfl ⟨_, _, _, rfl⟩ (fun h => by cases h)
 · exact TyOK.of (d := (.func #[5] #[4] false)) (by kernel_rfl) (by kernel_rfl) rfl ⟨_, _, _, rfl⟩ (fun h => by cases h)
 · exact TyOK.of (d := (.func #[44, 9] #[9] false)) (by kernel_rfl) (by kernel_rfl) rfl ⟨_, _, _, rfl⟩ (fun h => by cases h)
 · exact TyOK.of (d := (.func #[22, 71] #[3] false)) (by kernel_rfl) (by kernel_rfl) rfl ⟨_, _, _, rfl⟩ (fun h => by cases h)
 · exact TyOK.of (d := (.func #[9, 3, 3] #[3, 4] false)) (by kernel_rfl) (by kernel_rfl) rfl ⟨_, _, _, rfl⟩ (fun h => by cases h)
 · exact TyOK.of (d := (.array 5 3)) (by kernel_rfl) (by kernel_rfl) rfl rfl (fun h => by cases h)
 · exact TyOK.of (d := (.func #[9] #[44, 4] false)) (by kernel_rfl) (by kernel_rfl) rfl ⟨_, _, _, rfl⟩ (fun h => by cases h)
 · exact TyOK.of (d := (.func #[44, 9] #[4] false)) (by kernel_rfl) (by kernel_rfl) rfl ⟨_, _, _, rfl⟩ (fun h => by cases h)
 · exact TyOK.of (d := (.pointer 137)) (by kernel_rfl) (by kernel_rfl) rfl rfl (fun h => by cases h)
 · exact TyOK.of (d := (.slice 5)) (by kernel_rfl) (by kernel_rfl) rfl rfl (fun h => by cases h)
 · exact TyOK.of (d := (.struct (Tryz.prog.fieldsOf 136))) (by kernel_rfl) (by kernel_rfl) rfl ⟨_, rfl, by kernel_rfl⟩ (fun h => by cases h)
 · exact TyOK.of (d := (.struct (Tryz.prog.fieldsOf 137))) (by kernel_rfl) (by kernel_rfl) rfl ⟨_, rfl, by kernel_rfl⟩ (fun h => by cases h)
 · exact TyOK.of (d := (.func #[3] #[] false)) (by kernel_rfl) (by kernel_rfl) rfl ⟨_, _, _, rfl⟩ (fun h => by cases h)
 · exact TyOK.of (d := (.func #[9] #[3, 31] false)) (by kernel_rfl) (by kernel_rfl) rfl ⟨_, _, _, rfl⟩ (fun h => by cases h)
 · exact TyOK.of (d := (.func #[] #[9] false)) (by kernel_rfl) (by kernel_rfl) rfl ⟨_, _, _, rfl⟩ (fun h => by cases h)
 · exact TyOK.of (d := (.func #[9, 5] #[3] false)) (by kernel_rfl) (by kernel_rfl) rfl ⟨_, _, _, rfl⟩ (fun h => by cases h)
 · exact TyOK.of (d := (.func #[44, 9] #[3] false)) (by kernel_rfl) (by kernel_rfl) rfl ⟨_, _, _, rfl⟩ (fun h => by cases h)
 · exact TyOK.of (d := (.pointer 5)) (by kernel_rfl) (by kernel_rfl) rfl rfl (fun h => by cases h)
 · exact TyOK.of (d := (.func #[3] #[135] false)) (by kernel_rfl) (by kernel_rfl) rfl ⟨_, _, _, rfl⟩ (fun h => by cases h)
 · exact TyOK.of (d := (.func #[] #[3] false)) (by kernel_rfl) (by kernel_rfl) rfl ⟨_, _, _, rfl⟩ (fun h => by cases h)
 · exact TyOK.of (d := (.int .u32)) (by kernel_rfl) (by kernel_rfl) rfl rfl (fun h => by cases h)
 · exact TyOK.of (d := (.int .u16)) (by kernel_rfl) (by kernel_rfl) rfl rfl (fun h => by cases h)
 · exact TyOK.of (d := (.pointer 31)) (by kernel_rfl) (by kernel_rfl) rfl rfl (fun h => by cases h)
end Go.Proofs.YtpmpajodihpkaaaGreatDoor
