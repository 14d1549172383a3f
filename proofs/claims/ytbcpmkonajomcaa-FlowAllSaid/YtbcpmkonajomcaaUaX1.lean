/- The types of this program, as the evaluator needs them. -/
import Derived.Test.YtbcpmkonajomcaaUaT
import Derived.Test.YtbcpmkonajomcaaProg
namespace Go.Proofs.Ytbcpmkonajomcaa
open Go Go.Proofs Go.Ua
set_option linter.unusedVariables false
/-- The types that the functions of this seat name. -/
def tab : Tab := [
  (1, { k := .func, size := 1, bytes := 8, zero := [.fn0] }),
  (2, { k := .int .i64, size := 1, bytes := 8, zero := [.int .i64 0] }),
  (3, { k := .int .i64, size := 1, bytes := 8, zero := [.int .i64 0] }),
  (4, { k := .bool, size := 1, bytes := 1, zero := [.bool false] }),
  (5, { k := .int .u8, size := 1, bytes := 1, zero := [.int .u8 0] }),
  (9, { k := .string, size := 1, bytes := 16, zero := [.str []] }),
  (20, { k := .iface, size := 1, bytes := 16, zero := [.if0] }),
  (21, { k := .int .i32, size := 1, bytes := 4, zero := [.int .i32 0] }),
  (22, { k := .slice 46, size := 1, bytes := 24, zero := [.sl0] }),
  (23, { k := .slice 9, size := 1, bytes := 24, zero := [.sl0] }),
  (24, { k := .struct [(0, 9), (1, 23), (2, 9), (3, 9), (4, 9), (5, 3)], size := 6, bytes := 96, zero := [.str [], .sl0, .str [], .str [], .str [], .int .i64 0] }),
  (25, { k := .struct [(0, 9), (1, 23), (2, 9), (3, 9), (4, 9), (5, 3)], size := 6, bytes := 96, zero := [.str [], .sl0, .str [], .str [], .str [], .int .i64 0] }),
  (26, { k := .func, size := 1, bytes := 8, zero := [.fn0] }),
  (27, { k := .slice 54, size := 1, bytes := 24, zero := [.sl0] }),
  (28, { k := .struct [(0, 3), (1, 3), (2, 3), (3, 3), (4, 27), (5, 22)], size := 6, bytes := 80, zero := [.int .i64 0, .int .i64 0, .int .i64 0, .int .i64 0, .sl0, .sl0] }),
  (29, { k := .struct [(0, 3), (1, 3), (2, 3), (3, 3), (4, 27), (5, 22)], size := 6, bytes := 80, zero := [.int .i64 0, .int .i64 0, .int .i64 0, .int .i64 0, .sl0, .sl0] }),
  (30, { k := .func, size := 1, bytes := 8, zero := [.fn0] }),
  (31, { k := .func, size := 1, bytes := 8, zero := [.fn0] }),
  (32, { k := .int .u64, size := 1, bytes := 8, zero := [.int .u64 0] }),
  (33, { k := .struct [(0, 9), (1, 9), (2, 9), (3, 32)], size := 4, bytes := 56, zero := [.str [], .str [], .str [], .int .u64 0], eq := true }),
  (34, { k := .struct [(0, 9), (1, 9), (2, 9), (3, 32)], size := 4, bytes := 56, zero := [.str [], .str [], .str [], .int .u64 0], eq := true }),
  (35, { k := .int .i64, size := 1, bytes := 8, zero := [.int .i64 0] }),
  (37, { k := .func, size := 1, bytes := 8, zero := [.fn0] }),
  (38, { k := .struct [(0, 29), (6, 32)], size := 7, bytes := 88, zero := [.int .i64 0, .int .i64 0, .int .i64 0, .int .i64 0, .sl0, .sl0, .int .u64 0] }),
  (39, { k := .struct [(0, 29), (6, 32)], size := 7, bytes := 88, zero := [.int .i64 0, .int .i64 0, .int .i64 0, .int .i64 0, .sl0, .sl0, .int .u64 0] }),
  (41, { k := .func, size := 1, bytes := 8, zero := [.fn0] }),
  (42, { k := .func, size := 1, bytes := 8, zero := [.fn0] }),
  (43, { k := .func, size := 1, bytes := 8, zero := [.fn0] }),
  (44, { k := .slice 52, size := 1, bytes := 24, zero := [.sl0] }),
  (45, { k := .struct [(0, 9), (1, 9), (2, 3), (3, 3), (4, 44)], size := 5, bytes := 72, zero := [.str [], .str [], .int .i64 0, .int .i64 0, .sl0] }),
  (46, { k := .struct [(0, 9), (1, 9), (2, 3), (3, 3), (4, 44)], size := 5, bytes := 72, zero := [.str [], .str [], .int .i64 0, .int .i64 0, .sl0] }),
  (47, { k := .func, size := 1, bytes := 8, zero := [.fn0] }),
  (48, { k := .func, size := 1, bytes := 8, zero := [.fn0] }),
  (49, { k := .func, size := 1, bytes := 8, zero := [.fn0] }),
  (50, { k := .func, size := 1, bytes := 8, zero := [.fn0] }),
  (51, { k := .struct [(0, 23), (1, 23), (2, 23), (3, 23), (4, 23)], size := 5, bytes := 120, zero := [.sl0, .sl0, .sl0, .sl0, .sl0] }),
  (52, { k := .struct [(0, 23), (1, 23), (2, 23), (3, 23), (4, 23)], size := 5, bytes := 120, zero := [.sl0, .sl0, .sl0, .sl0, .sl0] }),
  (53, { k := .struct [(0, 9), (1, 3), (2, 3), (3, 3), (4, 3), (5, 3), (6, 3), (7, 3), (8, 3), (9, 3)], size := 10, bytes := 88, zero := [.str [], .int .i64 0, .int .i64 0, .int .i64 0, .int .i64 0, .int .i64 0, .int .i64 0, .int .i64 0, .int .i64 0, .int .i64 0], eq := true }),
  (54, { k := .struct [(0, 9), (1, 3), (2, 3), (3, 3), (4, 3), (5, 3), (6, 3), (7, 3), (8, 3), (9, 3)], size := 10, bytes := 88, zero := [.str [], .int .i64 0, .int .i64 0, .int .i64 0, .int .i64 0, .int .i64 0, .int .i64 0, .int .i64 0, .int .i64 0, .int .i64 0], eq := true }),
  (55, { k := .slice 23, size := 1, bytes := 24, zero := [.sl0] }),
  (56, { k := .func, size := 1, bytes := 8, zero := [.fn0] }),
  (57, { k := .func, size := 1, bytes := 8, zero := [.fn0] }),
  (58, { k := .func, size := 1, bytes := 8, zero := [.fn0] }),
  (59, { k := .func, size := 1, bytes := 8, zero := [.fn0] }),
  (60, { k := .func, size := 1, bytes := 8, zero := [.fn0] }),
  (61, { k := .func, size := 1, bytes := 8, zero := [.fn0] }),
  (62, { k := .slice 5, size := 1, bytes := 24, zero := [.sl0] }),
  (63, { k := .func, size := 1, bytes := 8, zero := [.fn0] }),
  (64, { k := .func, size := 1, bytes := 8, zero := [.fn0] }),
  (65, { k := .func, size := 1, bytes := 8, zero := [.fn0] }),
  (66, { k := .func, size := 1, bytes := 8, zero := [.fn0] }),
  (67, { k := .func, size := 1, bytes := 8, zero := [.fn0] }),
  (68, { k := .int .u64, size := 1, bytes := 8, zero := [.int .u64 0] }),
  (69, { k := .func, size := 1, bytes := 8, zero := [.fn0] }),
  (70, { k := .func, size := 1, bytes := 8, zero := [.fn0] }),
  (76, { k := .func, size := 1, bytes := 8, zero := [.fn0] }),
  (77, { k := .int .u32, size := 1, bytes := 4, zero := [.int .u32 0] }),
  (81, { k := .pointer 5, size := 1, bytes := 8, zero := [.ptr0] })]
set_option maxRecDepth 100000 in
theorem tabOK : TabOK Try.prog tab := by
  refine ⟨?_, ?_, ?_, ?_, ?_, ?_, ?_, ?_, ?_, ?_, ?_, ?_, ?_, ?_, ?_, ?_, ?_, ?_, ?_, ?_, ?_, ?_, ?_, ?_, ?_, ?_, ?_, ?_, ?_, ?_, ?_, ?_, ?_, ?_, ?_, ?_, ?_, ?_, ?_, ?_, ?_, ?_, ?_, ?_, ?_, ?_, ?_, ?_, ?_, ?_, ?_, ?_, ?_, ?_, ?_, ?_, ?_, ?_, trivial⟩
  · exact TyOK.of (d := (.func #[] #[] false)) (by kernel_rfl) (by kernel_rfl) rfl ⟨_, _, _, rfl⟩ (fun h => by cases h)
  · exact TyOK.of (d := (.int .i64)) (by kernel_rfl) (by kernel_rfl) rfl rfl (fun h => by cases h)
  · exact TyOK.of (d := (.int .i64)) (by kernel_rfl) (by kernel_rfl) rfl rfl (fun h => by cases h)
  · exact TyOK.of (d := .bool) (by kernel_rfl) (by kernel_rfl) rfl rfl (fun h => by cases h)
  · exact TyOK.of (d := (.int .u8)) (by kernel_rfl) (by kernel_rfl) rfl rfl (fun h => by cases h)
  · exact TyOK.of (d := .string) (by kernel_rfl) (by kernel_rfl) rfl rfl (fun h => by cases h)
  · exact TyOK.of (d := (.interface #[])) (by kernel_rfl) (by kernel_rfl) rfl ⟨_, rfl⟩ (fun h => by cases h)
  · exact TyOK.of (d := (.int .i32)) (by kernel_rfl) (by kernel_rfl) rfl rfl (fun h => by cases h)
  · exact TyOK.of (d := (.slice 46)) (by kernel_rfl) (by kernel_rfl) rfl rfl (fun h => by cases h)
  · exact TyOK.of (d := (.slice 9)) (by kernel_rfl) (by kernel_rfl) rfl rfl (fun h => by cases h)
  · exact TyOK.of (d := (.struct (Try.prog.fieldsOf 24))) (by kernel_rfl) (by kernel_rfl) rfl ⟨_, rfl, by kernel_rfl⟩ (fun h => by cases h)
  · exact TyOK.of (d := (.struct (Try.prog.fieldsOf 25))) (by kernel_rfl) (by kernel_rfl) rfl ⟨_, rfl, by kernel_rfl⟩ (fun h => by cases h)
  · exact TyOK.of (d := (.func #[] #[4] false)) (by kernel_rfl) (by kernel_rfl) rfl ⟨_, _, _, rfl⟩ (fun h => by cases h)
  · exact TyOK.of (d := (.slice 54)) (by kernel_rfl) (by kernel_rfl) rfl rfl (fun h => by cases h)
  · exact TyOK.of (d := (.struct (Try.prog.fieldsOf 28))) (by kernel_rfl) (by kernel_rfl) rfl ⟨_, rfl, by kernel_rfl⟩ (fun h => by cases h)
  · exact TyOK.of (d := (.struct (Try.prog.fieldsOf 29))) (by kernel_rfl) (by kernel_rfl) rfl ⟨_, rfl, by kernel_rfl⟩ (fun h => by cases h)
  · exact TyOK.of (d := (.func #[29] #[4] false)) (by kernel_rfl) (by kernel_rfl) rfl ⟨_, _, _, rfl⟩ (fun h => by cases h)
  · exact TyOK.of (d := (.func #[25] #[4] false)) (by kernel_rfl) (by kernel_rfl) rfl ⟨_, _, _, rfl⟩ (fun h => by cases h)
  · exact TyOK.of (d := (.int .u64)) (by kernel_rfl) (by kernel_rfl) rfl rfl (fun h => by cases h)
  · exact TyOK.of (d := (.struct (Try.prog.fieldsOf 33))) (by kernel_rfl) (by kernel_rfl) rfl ⟨_, rfl, by kernel_rfl⟩ (fun _ => ⟨by kernel_rfl, by kernel_rfl, by kernel_rfl, by kernel_rfl⟩)
  · exact TyOK.of (d := (.struct (Try.prog.fieldsOf 34))) (by kernel_rfl) (by kernel_rfl) rfl ⟨_, rfl, by kernel_rfl⟩ (fun _ => ⟨by kernel_rfl, by kernel_rfl, by kernel_rfl, by kernel_rfl⟩)
  · exact TyOK.of (d := (.int .i64)) (by kernel_rfl) (by kernel_rfl) rfl rfl (fun h => by cases h)
  · exact TyOK.of (d := (.func #[39, 25] #[34, 35] false)) (by kernel_rfl) (by kernel_rfl) rfl ⟨_, _, _, rfl⟩ (fun h => by cases h)
  · exact TyOK.of (d := (.struct (Try.prog.fieldsOf 38))) (by kernel_rfl) (by kernel_rfl) rfl ⟨_, rfl, by kernel_rfl⟩ (fun h => by cases h)
  · exact TyOK.of (d := (.struct (Try.prog.fieldsOf 39))) (by kernel_rfl) (by kernel_rfl) rfl ⟨_, rfl, by kernel_rfl⟩ (fun h => by cases h)
  · exact TyOK.of (d := (.func #[39, 25] #[34, 3] false)) (by kernel_rfl) (by kernel_rfl) rfl ⟨_, _, _, rfl⟩ (fun h => by cases h)
  · exact TyOK.of (d := (.func #[22, 25] #[4] false)) (by kernel_rfl) (by kernel_rfl) rfl ⟨_, _, _, rfl⟩ (fun h => by cases h)
  · exact TyOK.of (d := (.func #[46, 25] #[4] false)) (by kernel_rfl) (by kernel_rfl) rfl ⟨_, _, _, rfl⟩ (fun h => by cases h)
  · exact TyOK.of (d := (.slice 52)) (by kernel_rfl) (by kernel_rfl) rfl rfl (fun h => by cases h)
  · exact TyOK.of (d := (.struct (Try.prog.fieldsOf 45))) (by kernel_rfl) (by kernel_rfl) rfl ⟨_, rfl, by kernel_rfl⟩ (fun h => by cases h)
  · exact TyOK.of (d := (.struct (Try.prog.fieldsOf 46))) (by kernel_rfl) (by kernel_rfl) rfl ⟨_, rfl, by kernel_rfl⟩ (fun h => by cases h)
  · exact TyOK.of (d := (.func #[22, 22, 25] #[4] false)) (by kernel_rfl) (by kernel_rfl) rfl ⟨_, _, _, rfl⟩ (fun h => by cases h)
  · exact TyOK.of (d := (.func #[22, 25, 25] #[4] false)) (by kernel_rfl) (by kernel_rfl) rfl ⟨_, _, _, rfl⟩ (fun h => by cases h)
  · exact TyOK.of (d := (.func #[3, 25] #[9] false)) (by kernel_rfl) (by kernel_rfl) rfl ⟨_, _, _, rfl⟩ (fun h => by cases h)
  · exact TyOK.of (d := (.func #[3, 25] #[4] false)) (by kernel_rfl) (by kernel_rfl) rfl ⟨_, _, _, rfl⟩ (fun h => by cases h)
  · exact TyOK.of (d := (.struct (Try.prog.fieldsOf 51))) (by kernel_rfl) (by kernel_rfl) rfl ⟨_, rfl, by kernel_rfl⟩ (fun h => by cases h)
  · exact TyOK.of (d := (.struct (Try.prog.fieldsOf 52))) (by kernel_rfl) (by kernel_rfl) rfl ⟨_, rfl, by kernel_rfl⟩ (fun h => by cases h)
  · exact TyOK.of (d := (.struct (Try.prog.fieldsOf 53))) (by kernel_rfl) (by kernel_rfl) rfl ⟨_, rfl, by kernel_rfl⟩ (fun _ => ⟨by kernel_rfl, by kernel_rfl, by kernel_rfl, by kernel_rfl⟩)
  · exact TyOK.of (d := (.struct (Try.prog.fieldsOf 54))) (by kernel_rfl) (by kernel_rfl) rfl ⟨_, rfl, by kernel_rfl⟩ (fun _ => ⟨by kernel_rfl, by kernel_rfl, by kernel_rfl, by kernel_rfl⟩)
  · exact TyOK.of (d := (.slice 23)) (by kernel_rfl) (by kernel_rfl) rfl rfl (fun h => by cases h)
  · exact TyOK.of (d := (.func #[9, 9] #[32] false)) (by kernel_rfl) (by kernel_rfl) rfl ⟨_, _, _, rfl⟩ (fun h => by cases h)
  · exact TyOK.of (d := (.func #[44, 59] #[4] false)) (by kernel_rfl) (by kernel_rfl) rfl ⟨_, _, _, rfl⟩ (fun h => by cases h)
  · exact TyOK.of (d := (.func #[52, 25] #[4] false)) (by kernel_rfl) (by kernel_rfl) rfl ⟨_, _, _, rfl⟩ (fun h => by cases h)
  · exact TyOK.of (d := (.func #[52] #[4] false)) (by kernel_rfl) (by kernel_rfl) rfl ⟨_, _, _, rfl⟩ (fun h => by cases h)
  · exact TyOK.of (d := (.func #[32, 9] #[32] false)) (by kernel_rfl) (by kernel_rfl) rfl ⟨_, _, _, rfl⟩ (fun h => by cases h)
  · exact TyOK.of (d := (.func #[9] #[32] false)) (by kernel_rfl) (by kernel_rfl) rfl ⟨_, _, _, rfl⟩ (fun h => by cases h)
  · exact TyOK.of (d := (.slice 5)) (by kernel_rfl) (by kernel_rfl) rfl rfl (fun h => by cases h)
  · exact TyOK.of (d := (.func #[44, 59] #[3] false)) (by kernel_rfl) (by kernel_rfl) rfl ⟨_, _, _, rfl⟩ (fun h => by cases h)
  · exact TyOK.of (d := (.func #[23, 9] #[4] false)) (by kernel_rfl) (by kernel_rfl) rfl ⟨_, _, _, rfl⟩ (fun h => by cases h)
  · exact TyOK.of (d := (.func #[23, 66] #[4] false)) (by kernel_rfl) (by kernel_rfl) rfl ⟨_, _, _, rfl⟩ (fun h => by cases h)
  · exact TyOK.of (d := (.func #[9] #[4] false)) (by kernel_rfl) (by kernel_rfl) rfl ⟨_, _, _, rfl⟩ (fun h => by cases h)
  · exact TyOK.of (d := (.func #[23, 66] #[3] false)) (by kernel_rfl) (by kernel_rfl) rfl ⟨_, _, _, rfl⟩ (fun h => by cases h)
  · exact TyOK.of (d := (.int .u64)) (by kernel_rfl) (by kernel_rfl) rfl rfl (fun h => by cases h)
  · exact TyOK.of (d := (.func #[23, 9] #[3] false)) (by kernel_rfl) (by kernel_rfl) rfl ⟨_, _, _, rfl⟩ (fun h => by cases h)
  · exact TyOK.of (d := (.func #[] #[9] false)) (by kernel_rfl) (by kernel_rfl) rfl ⟨_, _, _, rfl⟩ (fun h => by cases h)
  · exact TyOK.of (d := (.func #[] #[3] false)) (by kernel_rfl) (by kernel_rfl) rfl ⟨_, _, _, rfl⟩ (fun h => by cases h)
  · exact TyOK.of (d := (.int .u32)) (by kernel_rfl) (by kernel_rfl) rfl rfl (fun h => by cases h)
  · exact TyOK.of (d := (.pointer 5)) (by kernel_rfl) (by kernel_rfl) rfl rfl (fun h => by cases h)
end Go.Proofs.Ytbcpmkonajomcaa
