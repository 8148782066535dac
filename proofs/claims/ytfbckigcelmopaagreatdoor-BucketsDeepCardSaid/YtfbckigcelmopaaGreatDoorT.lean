/- The types of the program, as a table; the context of the abstract semantics. Printed by table.py. -/
import Derived.Test.YtfbckigcelmopaaGreatDoorProg
import Derived.Test.YtfbckigcelmopaaGreatDoorAb
import Derived.KernelRfl
set_option maxRecDepth 100000
namespace Go.Proofs.YtfbckigcelmopaaGreatDoor
open Go Go.Abs
def look : List (Nat × Ti) → Nat → Option Ti
  | [], _ => none
  | (k, i) :: r, t => bif Nat.beq k t then some i else look r t
def rows : List (Nat × Ti) := [
  (1, ⟨.func, 1, 8, .nilf⟩),
  (2, ⟨.int .i64, 1, 8, .int .i64 0⟩),
  (3, ⟨.int .i64, 1, 8, .int .i64 0⟩),
  (4, ⟨.bool, 1, 1, .bool false⟩),
  (5, ⟨.int .u8, 1, 1, .int .u8 0⟩),
  (7, ⟨.struct [(0, 2), (1, 3), (2, 4), (3, 6)], 4, 24, .agg [.int .i64 0, .int .i64 0, .bool false, .int .u8 0]⟩),
  (9, ⟨.str, 1, 16, .str []⟩),
  (12, ⟨.int .u64, 1, 8, .int .u64 0⟩),
  (13, ⟨.struct [(0, 9), (1, 12)], 2, 24, .agg [.str [], .int .u64 0]⟩),
  (18, ⟨.struct [(0, 17)], 1, 8, .agg [.nilp]⟩),
  (20, ⟨.iface, 1, 16, .nili⟩),
  (21, ⟨.int .i32, 1, 4, .int .i32 0⟩),
  (22, ⟨.func, 1, 8, .nilf⟩),
  (23, ⟨.sl 46, 1, 24, .sl true []⟩),
  (24, ⟨.struct [(0, 21), (1, 23), (2, 9)], 3, 48, .agg [.int .i32 0, .sl true [], .str []]⟩),
  (25, ⟨.struct [(0, 21), (1, 23), (2, 9)], 3, 48, .agg [.int .i32 0, .sl true [], .str []]⟩),
  (26, ⟨.iface, 1, 16, .nili⟩),
  (27, ⟨.iface, 1, 16, .nili⟩),
  (29, ⟨.func, 1, 8, .nilf⟩),
  (30, ⟨.func, 1, 8, .nilf⟩),
  (32, ⟨.func, 1, 8, .nilf⟩),
  (33, ⟨.func, 1, 8, .nilf⟩),
  (34, ⟨.func, 1, 8, .nilf⟩),
  (35, ⟨.func, 1, 8, .nilf⟩),
  (36, ⟨.func, 1, 8, .nilf⟩),
  (37, ⟨.int .i64, 1, 8, .int .i64 0⟩),
  (38, ⟨.func, 1, 8, .nilf⟩),
  (39, ⟨.func, 1, 8, .nilf⟩),
  (40, ⟨.func, 1, 8, .nilf⟩),
  (42, ⟨.func, 1, 8, .nilf⟩),
  (43, ⟨.func, 1, 8, .nilf⟩),
  (44, ⟨.func, 1, 8, .nilf⟩),
  (45, ⟨.func, 1, 8, .nilf⟩),
  (46, ⟨.int .u64, 1, 8, .int .u64 0⟩),
  (47, ⟨.func, 1, 8, .nilf⟩),
  (48, ⟨.func, 1, 8, .nilf⟩),
  (49, ⟨.sl 105, 1, 24, .sl true []⟩),
  (50, ⟨.struct [(0, 4), (1, 46)], 2, 16, .agg [.bool false, .int .u64 0]⟩),
  (51, ⟨.struct [(0, 4), (1, 46)], 2, 16, .agg [.bool false, .int .u64 0]⟩),
  (52, ⟨.sl 110, 1, 24, .sl true []⟩),
  (53, ⟨.int .u32, 1, 4, .int .u32 0⟩),
  (54, ⟨.struct [(0, 49), (1, 46), (2, 46), (3, 46), (4, 51), (6, 51), (8, 51), (10, 21), (11, 46), (12, 4), (13, 25), (16, 4), (17, 25), (20, 52), (21, 53), (22, 46), (23, 9)], 24, 280, .agg [.sl true [], .int .u64 0, .int .u64 0, .int .u64 0, .bool false, .int .u64 0, .bool false, .int .u64 0, .bool false, .int .u64 0, .int .i32 0, .int .u64 0, .bool false, .int .i32 0, .sl true [], .str [], .bool false, .int .i32 0, .sl true [], .str [], .sl true [], .int .u32 0, .int .u64 0, .str []]⟩),
  (55, ⟨.struct [(0, 49), (1, 46), (2, 46), (3, 46), (4, 51), (6, 51), (8, 51), (10, 21), (11, 46), (12, 4), (13, 25), (16, 4), (17, 25), (20, 52), (21, 53), (22, 46), (23, 9)], 24, 280, .agg [.sl true [], .int .u64 0, .int .u64 0, .int .u64 0, .bool false, .int .u64 0, .bool false, .int .u64 0, .bool false, .int .u64 0, .int .i32 0, .int .u64 0, .bool false, .int .i32 0, .sl true [], .str [], .bool false, .int .i32 0, .sl true [], .str [], .sl true [], .int .u32 0, .int .u64 0, .str []]⟩),
  (57, ⟨.func, 1, 8, .nilf⟩),
  (58, ⟨.ptr, 1, 8, .nilp⟩),
  (59, ⟨.func, 1, 8, .nilf⟩),
  (60, ⟨.func, 1, 8, .nilf⟩),
  (61, ⟨.func, 1, 8, .nilf⟩),
  (62, ⟨.func, 1, 8, .nilf⟩),
  (63, ⟨.func, 1, 8, .nilf⟩),
  (64, ⟨.sl 117, 1, 24, .sl true []⟩),
  (65, ⟨.struct [(0, 27), (1, 9), (2, 3), (3, 3), (4, 64)], 5, 72, .agg [.nili, .str [], .int .i64 0, .int .i64 0, .sl true []]⟩),
  (66, ⟨.struct [(0, 27), (1, 9), (2, 3), (3, 3), (4, 64)], 5, 72, .agg [.nili, .str [], .int .i64 0, .int .i64 0, .sl true []]⟩),
  (67, ⟨.sl 71, 1, 24, .sl true []⟩),
  (69, ⟨.func, 1, 8, .nilf⟩),
  (70, ⟨.struct [(0, 3), (1, 3), (2, 46), (3, 9), (4, 9)], 5, 56, .agg [.int .i64 0, .int .i64 0, .int .u64 0, .str [], .str []]⟩),
  (71, ⟨.struct [(0, 3), (1, 3), (2, 46), (3, 9), (4, 9)], 5, 56, .agg [.int .i64 0, .int .i64 0, .int .u64 0, .str [], .str []]⟩),
  (72, ⟨.func, 1, 8, .nilf⟩),
  (73, ⟨.sl 3, 1, 24, .sl true []⟩),
  (74, ⟨.func, 1, 8, .nilf⟩),
  (76, ⟨.func, 1, 8, .nilf⟩),
  (78, ⟨.func, 1, 8, .nilf⟩),
  (79, ⟨.func, 1, 8, .nilf⟩),
  (80, ⟨.func, 1, 8, .nilf⟩),
  (81, ⟨.int .u64, 1, 8, .int .u64 0⟩),
  (82, ⟨.func, 1, 8, .nilf⟩),
  (83, ⟨.ptr, 1, 8, .nilp⟩),
  (84, ⟨.func, 1, 8, .nilf⟩),
  (85, ⟨.func, 1, 8, .nilf⟩),
  (86, ⟨.ptr, 1, 8, .nilp⟩),
  (87, ⟨.sl 5, 1, 24, .sl true []⟩),
  (88, ⟨.struct [(0, 86), (1, 87)], 2, 32, .agg [.nilp, .sl true []]⟩),
  (89, ⟨.struct [(0, 86), (1, 87)], 2, 32, .agg [.nilp, .sl true []]⟩),
  (90, ⟨.struct [(0, 89)], 2, 32, .agg [.nilp, .sl true []]⟩),
  (91, ⟨.struct [(0, 89)], 2, 32, .agg [.nilp, .sl true []]⟩),
  (92, ⟨.func, 1, 8, .nilf⟩),
  (93, ⟨.func, 1, 8, .nilf⟩),
  (94, ⟨.func, 1, 8, .nilf⟩),
  (95, ⟨.func, 1, 8, .nilf⟩),
  (96, ⟨.func, 1, 8, .nilf⟩),
  (97, ⟨.func, 1, 8, .nilf⟩),
  (98, ⟨.func, 1, 8, .nilf⟩),
  (99, ⟨.func, 1, 8, .nilf⟩),
  (100, ⟨.func, 1, 8, .nilf⟩),
  (101, ⟨.sl 103, 1, 24, .sl true []⟩),
  (102, ⟨.struct [(0, 3), (1, 9), (2, 4), (3, 46), (4, 101), (5, 49), (6, 9), (7, 9)], 8, 120, .agg [.int .i64 0, .str [], .bool false, .int .u64 0, .sl true [], .sl true [], .str [], .str []]⟩),
  (103, ⟨.struct [(0, 3), (1, 9), (2, 4), (3, 46), (4, 101), (5, 49), (6, 9), (7, 9)], 8, 120, .agg [.int .i64 0, .str [], .bool false, .int .u64 0, .sl true [], .sl true [], .str [], .str []]⟩),
  (104, ⟨.struct [(0, 9), (1, 4), (2, 103), (10, 9)], 11, 160, .agg [.str [], .bool false, .int .i64 0, .str [], .bool false, .int .u64 0, .sl true [], .sl true [], .str [], .str [], .str []]⟩),
  (105, ⟨.struct [(0, 9), (1, 4), (2, 103), (10, 9)], 11, 160, .agg [.str [], .bool false, .int .i64 0, .str [], .bool false, .int .u64 0, .sl true [], .sl true [], .str [], .str [], .str []]⟩),
  (106, ⟨.func, 1, 8, .nilf⟩),
  (107, ⟨.func, 1, 8, .nilf⟩),
  (108, ⟨.func, 1, 8, .nilf⟩),
  (109, ⟨.struct [(0, 49), (1, 46), (2, 3), (3, 46), (4, 9), (5, 9), (6, 9)], 7, 96, .agg [.sl true [], .int .u64 0, .int .i64 0, .int .u64 0, .str [], .str [], .str []]⟩),
  (110, ⟨.struct [(0, 49), (1, 46), (2, 3), (3, 46), (4, 9), (5, 9), (6, 9)], 7, 96, .agg [.sl true [], .int .u64 0, .int .i64 0, .int .u64 0, .str [], .str [], .str []]⟩),
  (111, ⟨.func, 1, 8, .nilf⟩),
  (112, ⟨.func, 1, 8, .nilf⟩),
  (113, ⟨.func, 1, 8, .nilf⟩),
  (114, ⟨.func, 1, 8, .nilf⟩),
  (116, ⟨.func, 1, 8, .nilf⟩),
  (117, ⟨.struct [(0, 3), (1, 3), (2, 46), (3, 9), (4, 9)], 5, 56, .agg [.int .i64 0, .int .i64 0, .int .u64 0, .str [], .str []]⟩),
  (119, ⟨.func, 1, 8, .nilf⟩),
  (120, ⟨.func, 1, 8, .nilf⟩),
  (121, ⟨.func, 1, 8, .nilf⟩),
  (122, ⟨.func, 1, 8, .nilf⟩),
  (123, ⟨.func, 1, 8, .nilf⟩),
  (125, ⟨.func, 1, 8, .nilf⟩),
  (126, ⟨.ptr, 1, 8, .nilp⟩),
  (127, ⟨.ptr, 1, 8, .nilp⟩),
  (128, ⟨.struct [(0, 3), (1, 27)], 2, 24, .agg [.int .i64 0, .nili]⟩),
  (129, ⟨.struct [(0, 3), (1, 27)], 2, 24, .agg [.int .i64 0, .nili]⟩),
  (134, ⟨.func, 1, 8, .nilf⟩),
  (135, ⟨.iface, 1, 16, .nili⟩),
  (137, ⟨.func, 1, 8, .nilf⟩),
  (139, ⟨.func, 1, 8, .nilf⟩),
  (140, ⟨.func, 1, 8, .nilf⟩),
  (141, ⟨.func, 1, 8, .nilf⟩),
  (142, ⟨.ptr, 1, 8, .nilp⟩),
  (143, ⟨.func, 1, 8, .nilf⟩),
  (144, ⟨.func, 1, 8, .nilf⟩),
  (145, ⟨.func, 1, 8, .nilf⟩),
  (146, ⟨.func, 1, 8, .nilf⟩),
  (147, ⟨.func, 1, 8, .nilf⟩),
  (149, ⟨.func, 1, 8, .nilf⟩),
  (150, ⟨.func, 1, 8, .nilf⟩),
  (151, ⟨.func, 1, 8, .nilf⟩),
  (153, ⟨.func, 1, 8, .nilf⟩),
  (154, ⟨.func, 1, 8, .nilf⟩),
  (155, ⟨.func, 1, 8, .nilf⟩),
  (156, ⟨.ptr, 1, 8, .nilp⟩),
  (157, ⟨.struct [(0, 9), (1, 3), (2, 27), (3, 3)], 4, 48, .agg [.str [], .int .i64 0, .nili, .int .i64 0]⟩),
  (158, ⟨.struct [(0, 9), (1, 3), (2, 27), (3, 3)], 4, 48, .agg [.str [], .int .i64 0, .nili, .int .i64 0]⟩),
  (159, ⟨.func, 1, 8, .nilf⟩),
  (160, ⟨.ptr, 1, 8, .nilp⟩),
  (162, ⟨.func, 1, 8, .nilf⟩),
  (164, ⟨.func, 1, 8, .nilf⟩),
  (165, ⟨.struct [(0, 17)], 1, 8, .agg [.nilp]⟩),
  (168, ⟨.func, 1, 8, .nilf⟩),
  (169, ⟨.func, 1, 8, .nilf⟩),
  (170, ⟨.func, 1, 8, .nilf⟩),
  (171, ⟨.iface, 1, 16, .nili⟩),
  (173, ⟨.func, 1, 8, .nilf⟩),
  (174, ⟨.iface, 1, 16, .nili⟩),
  (175, ⟨.func, 1, 8, .nilf⟩),
  (176, ⟨.iface, 1, 16, .nili⟩),
  (177, ⟨.sl 27, 1, 24, .sl true []⟩),
  (178, ⟨.func, 1, 8, .nilf⟩),
  (180, ⟨.func, 1, 8, .nilf⟩),
  (181, ⟨.func, 1, 8, .nilf⟩),
  (182, ⟨.sl 9, 1, 24, .sl true []⟩),
  (183, ⟨.struct [(0, 3), (1, 46), (2, 9), (3, 182)], 4, 56, .agg [.int .i64 0, .int .u64 0, .str [], .sl true []]⟩),
  (184, ⟨.struct [(0, 3), (1, 46), (2, 9), (3, 182)], 4, 56, .agg [.int .i64 0, .int .u64 0, .str [], .sl true []]⟩),
  (185, ⟨.func, 1, 8, .nilf⟩),
  (186, ⟨.struct [(0, 101), (1, 9)], 2, 40, .agg [.sl true [], .str []]⟩),
  (187, ⟨.struct [(0, 101), (1, 9)], 2, 40, .agg [.sl true [], .str []]⟩),
  (188, ⟨.func, 1, 8, .nilf⟩),
  (189, ⟨.func, 1, 8, .nilf⟩),
  (190, ⟨.func, 1, 8, .nilf⟩),
  (191, ⟨.struct [(0, 49), (1, 9)], 2, 40, .agg [.sl true [], .str []]⟩),
  (192, ⟨.struct [(0, 49), (1, 9)], 2, 40, .agg [.sl true [], .str []]⟩),
  (193, ⟨.func, 1, 8, .nilf⟩),
  (194, ⟨.func, 1, 8, .nilf⟩),
  (195, ⟨.func, 1, 8, .nilf⟩),
  (197, ⟨.ptr, 1, 8, .nilp⟩),
  (198, ⟨.struct [(0, 3), (1, 27)], 2, 24, .agg [.int .i64 0, .nili]⟩),
  (199, ⟨.struct [(0, 3), (1, 27)], 2, 24, .agg [.int .i64 0, .nili]⟩),
  (201, ⟨.func, 1, 8, .nilf⟩),
  (202, ⟨.func, 1, 8, .nilf⟩),
  (203, ⟨.ptr, 1, 8, .nilp⟩),
  (204, ⟨.func, 1, 8, .nilf⟩),
  (206, ⟨.func, 1, 8, .nilf⟩),
  (207, ⟨.func, 1, 8, .nilf⟩),
  (208, ⟨.func, 1, 8, .nilf⟩),
  (209, ⟨.func, 1, 8, .nilf⟩),
  (211, ⟨.func, 1, 8, .nilf⟩),
  (212, ⟨.func, 1, 8, .nilf⟩),
  (213, ⟨.func, 1, 8, .nilf⟩),
  (214, ⟨.func, 1, 8, .nilf⟩),
  (215, ⟨.func, 1, 8, .nilf⟩),
  (216, ⟨.func, 1, 8, .nilf⟩),
  (217, ⟨.func, 1, 8, .nilf⟩),
  (218, ⟨.func, 1, 8, .nilf⟩),
  (221, ⟨.func, 1, 8, .nilf⟩),
  (222, ⟨.func, 1, 8, .nilf⟩),
  (223, ⟨.func, 1, 8, .nilf⟩),
  (224, ⟨.func, 1, 8, .nilf⟩),
  (225, ⟨.func, 1, 8, .nilf⟩),
  (226, ⟨.struct [(0, 17), (1, 17), (2, 17), (3, 9)], 4, 40, .agg [.nilp, .nilp, .nilp, .str []]⟩),
  (231, ⟨.func, 1, 8, .nilf⟩),
  (232, ⟨.func, 1, 8, .nilf⟩),
  (234, ⟨.func, 1, 8, .nilf⟩),
  (237, ⟨.struct [(0, 12), (1, 12), (2, 53), (3, 233), (4, 5), (5, 5), (6, 138), (7, 234), (8, 160), (9, 235), (10, 236)], 11, 48, .agg [.int .u64 0, .int .u64 0, .int .u32 0, .int .u8 0, .int .u8 0, .int .u8 0, .int .u8 0, .nilf, .nilp, .int .i32 0, .int .i32 0]⟩),
  (239, ⟨.func, 1, 8, .nilf⟩),
  (240, ⟨.func, 1, 8, .nilf⟩),
  (241, ⟨.struct [(0, 9), (1, 138)], 2, 24, .agg [.str [], .int .u8 0]⟩),
  (244, ⟨.func, 1, 8, .nilf⟩),
  (245, ⟨.int .u16, 1, 2, .int .u16 0⟩),
  (246, ⟨.struct [(0, 235), (1, 245), (2, 245), (3, 53), (4, 53)], 5, 16, .agg [.int .i32 0, .int .u16 0, .int .u16 0, .int .u32 0, .int .u32 0]⟩),
  (248, ⟨.sl 251, 1, 24, .sl true []⟩),
  (250, ⟨.struct [(0, 235), (1, 236), (2, 249), (3, 249)], 4, 16, .agg [.int .i32 0, .int .i32 0, .int .i32 0, .int .i32 0]⟩),
  (252, ⟨.ptr, 1, 8, .nilp⟩)]
def AllRows (P : Program) : List (Nat × Ti) → Prop
  | [] => True
  | (k, i) :: r => RowOk P k i ∧ AllRows P r
theorem look_ok {P : Program} : ∀ {l : List (Nat × Ti)}, AllRows P l → ∀ t i, look l t = some i → RowOk P t i
  | [], _, t, i, h => by simp [look] at h
  | (k, j) :: r, ha, t, i, h => by
    unfold look at h
    cases hb : Nat.beq k t with
    | true => rw [hb] at h; simp at h; subst h; rw [← Nat.eq_of_beq_eq_true hb]; exact ha.1
    | false => rw [hb] at h; exact look_ok ha.2 t i h
theorem row1 : RowOk Tryz.prog 1 ⟨.func, 1, 8, .nilf⟩ := ⟨by kernel_rfl, by kernel_rfl, by kernel_rfl, by kernel_rfl⟩
theorem row2 : RowOk Tryz.prog 2 ⟨.int .i64, 1, 8, .int .i64 0⟩ := ⟨by kernel_rfl, by kernel_rfl, by kernel_rfl, by kernel_rfl⟩
theorem row3 : RowOk Tryz.prog 3 ⟨.int .i64, 1, 8, .int .i64 0⟩ := ⟨by kernel_rfl, by kernel_rfl, by kernel_rfl, by kernel_rfl⟩
theorem row4 : RowOk Tryz.prog 4 ⟨.bool, 1, 1, .bool false⟩ := ⟨by kernel_rfl, by kernel_rfl, by kernel_rfl, by kernel_rfl⟩
theorem row5 : RowOk Tryz.prog 5 ⟨.int .u8, 1, 1, .int .u8 0⟩ := ⟨by kernel_rfl, by kernel_rfl, by kernel_rfl, by kernel_rfl⟩
theorem row7 : RowOk Tryz.prog 7 ⟨.struct [(0, 2), (1, 3), (2, 4), (3, 6)], 4, 24, .agg [.int .i64 0, .int .i64 0, .bool false, .int .u8 0]⟩ := ⟨by kernel_rfl, by kernel_rfl, by kernel_rfl, by kernel_rfl⟩
theorem row9 : RowOk Tryz.prog 9 ⟨.str, 1, 16, .str []⟩ := ⟨by kernel_rfl, by kernel_rfl, by kernel_rfl, by kernel_rfl⟩
theorem row12 : RowOk Tryz.prog 12 ⟨.int .u64, 1, 8, .int .u64 0⟩ := ⟨by kernel_rfl, by kernel_rfl, by kernel_rfl, by kernel_rfl⟩
theorem row13 : RowOk Tryz.prog 13 ⟨.struct [(0, 9), (1, 12)], 2, 24, .agg [.str [], .int .u64 0]⟩ := ⟨by kernel_rfl, by kernel_rfl, by kernel_rfl, by kernel_rfl⟩
theorem row18 : RowOk Tryz.prog 18 ⟨.struct [(0, 17)], 1, 8, .agg [.nilp]⟩ := ⟨by kernel_rfl, by kernel_rfl, by kernel_rfl, by kernel_rfl⟩
theorem row20 : RowOk Tryz.prog 20 ⟨.iface, 1, 16, .nili⟩ := ⟨by kernel_rfl, by kernel_rfl, by kernel_rfl, by kernel_rfl⟩
theorem row21 : RowOk Tryz.prog 21 ⟨.int .i32, 1, 4, .int .i32 0⟩ := ⟨by kernel_rfl, by kernel_rfl, by kernel_rfl, by kernel_rfl⟩
theorem row22 : RowOk Tryz.prog 22 ⟨.func, 1, 8, .nilf⟩ := ⟨by kernel_rfl, by kernel_rfl, by kernel_rfl, by kernel_rfl⟩
theorem row23 : RowOk Tryz.prog 23 ⟨.sl 46, 1, 24, .sl true []⟩ := ⟨by kernel_rfl, by kernel_rfl, by kernel_rfl, by kernel_rfl⟩
theorem row24 : RowOk Tryz.prog 24 ⟨.struct [(0, 21), (1, 23), (2, 9)], 3, 48, .agg [.int .i32 0, .sl true [], .str []]⟩ := ⟨by kernel_rfl, by kernel_rfl, by kernel_rfl, by kernel_rfl⟩
theorem row25 : RowOk Tryz.prog 25 ⟨.struct [(0, 21), (1, 23), (2, 9)], 3, 48, .agg [.int .i32 0, .sl true [], .str []]⟩ := ⟨by kernel_rfl, by kernel_rfl, by kernel_rfl, by kernel_rfl⟩
theorem row26 : RowOk Tryz.prog 26 ⟨.iface, 1, 16, .nili⟩ := ⟨by kernel_rfl, by kernel_rfl, by kernel_rfl, by kernel_rfl⟩
theorem row27 : RowOk Tryz.prog 27 ⟨.iface, 1, 16, .nili⟩ := ⟨by kernel_rfl, by kernel_rfl, by kernel_rfl, by kernel_rfl⟩
theorem row29 : RowOk Tryz.prog 29 ⟨.func, 1, 8, .nilf⟩ := ⟨by kernel_rfl, by kernel_rfl, by kernel_rfl, by kernel_rfl⟩
theorem row30 : RowOk Tryz.prog 30 ⟨.func, 1, 8, .nilf⟩ := ⟨by kernel_rfl, by kernel_rfl, by kernel_rfl, by kernel_rfl⟩
theorem row32 : RowOk Tryz.prog 32 ⟨.func, 1, 8, .nilf⟩ := ⟨by kernel_rfl, by kernel_rfl, by kernel_rfl, by kernel_rfl⟩
theorem row33 : RowOk Tryz.prog 33 ⟨.func, 1, 8, .nilf⟩ := ⟨by kernel_rfl, by kernel_rfl, by kernel_rfl, by kernel_rfl⟩
theorem row34 : RowOk Tryz.prog 34 ⟨.func, 1, 8, .nilf⟩ := ⟨by kernel_rfl, by kernel_rfl, by kernel_rfl, by kernel_rfl⟩
theorem row35 : RowOk Tryz.prog 35 ⟨.func, 1, 8, .nilf⟩ := ⟨by kernel_rfl, by kernel_rfl, by kernel_rfl, by kernel_rfl⟩
theorem row36 : RowOk Tryz.prog 36 ⟨.func, 1, 8, .nilf⟩ := ⟨by kernel_rfl, by kernel_rfl, by kernel_rfl, by kernel_rfl⟩
theorem row37 : RowOk Tryz.prog 37 ⟨.int .i64, 1, 8, .int .i64 0⟩ := ⟨by kernel_rfl, by kernel_rfl, by kernel_rfl, by kernel_rfl⟩
theorem row38 : RowOk Tryz.prog 38 ⟨.func, 1, 8, .nilf⟩ := ⟨by kernel_rfl, by kernel_rfl, by kernel_rfl, by kernel_rfl⟩
theorem row39 : RowOk Tryz.prog 39 ⟨.func, 1, 8, .nilf⟩ := ⟨by kernel_rfl, by kernel_rfl, by kernel_rfl, by kernel_rfl⟩
theorem row40 : RowOk Tryz.prog 40 ⟨.func, 1, 8, .nilf⟩ := ⟨by kernel_rfl, by kernel_rfl, by kernel_rfl, by kernel_rfl⟩
theorem row42 : RowOk Tryz.prog 42 ⟨.func, 1, 8, .nilf⟩ := ⟨by kernel_rfl, by kernel_rfl, by kernel_rfl, by kernel_rfl⟩
theorem row43 : RowOk Tryz.prog 43 ⟨.func, 1, 8, .nilf⟩ := ⟨by kernel_rfl, by kernel_rfl, by kernel_rfl, by kernel_rfl⟩
theorem row44 : RowOk Tryz.prog 44 ⟨.func, 1, 8, .nilf⟩ := ⟨by kernel_rfl, by kernel_rfl, by kernel_rfl, by kernel_rfl⟩
theorem row45 : RowOk Tryz.prog 45 ⟨.func, 1, 8, .nilf⟩ := ⟨by kernel_rfl, by kernel_rfl, by kernel_rfl, by kernel_rfl⟩
theorem row46 : RowOk Tryz.prog 46 ⟨.int .u64, 1, 8, .int .u64 0⟩ := ⟨by kernel_rfl, by kernel_rfl, by kernel_rfl, by kernel_rfl⟩
theorem row47 : RowOk Tryz.prog 47 ⟨.func, 1, 8, .nilf⟩ := ⟨by kernel_rfl, by kernel_rfl, by kernel_rfl, by kernel_rfl⟩
theorem row48 : RowOk Tryz.prog 48 ⟨.func, 1, 8, .nilf⟩ := ⟨by kernel_rfl, by kernel_rfl, by kernel_rfl, by kernel_rfl⟩
theorem row49 : RowOk Tryz.prog 49 ⟨.sl 105, 1, 24, .sl true []⟩ := ⟨by kernel_rfl, by kernel_rfl, by kernel_rfl, by kernel_rfl⟩
theorem row50 : RowOk Tryz.prog 50 ⟨.struct [(0, 4), (1, 46)], 2, 16, .agg [.bool false, .int .u64 0]⟩ := ⟨by kernel_rfl, by kernel_rfl, by kernel_rfl, by kernel_rfl⟩
theorem row51 : RowOk Tryz.prog 51 ⟨.struct [(0, 4), (1, 46)], 2, 16, .agg [.bool false, .int .u64 0]⟩ := ⟨by kernel_rfl, by kernel_rfl, by kernel_rfl, by kernel_rfl⟩
theorem row52 : RowOk Tryz.prog 52 ⟨.sl 110, 1, 24, .sl true []⟩ := ⟨by kernel_rfl, by kernel_rfl, by kernel_rfl, by kernel_rfl⟩
theorem row53 : RowOk Tryz.prog 53 ⟨.int .u32, 1, 4, .int .u32 0⟩ := ⟨by kernel_rfl, by kernel_rfl, by kernel_rfl, by kernel_rfl⟩
theorem row54 : RowOk Tryz.prog 54 ⟨.struct [(0, 49), (1, 46), (2, 46), (3, 46), (4, 51), (6, 51), (8, 51), (10, 21), (11, 46), (12, 4), (13, 25), (16, 4), (17, 25), (20, 52), (21, 53), (22, 46), (23, 9)], 24, 280, .agg [.sl true [], .int .u64 0, .int .u64 0, .int .u64 0, .bool false, .int .u64 0, .bool false, .int .u64 0, .bool false, .int .u64 0, .int .i32 0, .int .u64 0, .bool false, .int .i32 0, .sl true [], .str [], .bool false, .int .i32 0, .sl true [], .str [], .sl true [], .int .u32 0, .int .u64 0, .str []]⟩ := ⟨by kernel_rfl, by kernel_rfl, by kernel_rfl, by kernel_rfl⟩
theorem row55 : RowOk Tryz.prog 55 ⟨.struct [(0, 49), (1, 46), (2, 46), (3, 46), (4, 51), (6, 51), (8, 51), (10, 21), (11, 46), (12, 4), (13, 25), (16, 4), (17, 25), (20, 52), (21, 53), (22, 46), (23, 9)], 24, 280, .agg [.sl true [], .int .u64 0, .int .u64 0, .int .u64 0, .bool false, .int .u64 0, .bool false, .int .u64 0, .bool false, .int .u64 0, .int .i32 0, .int .u64 0, .bool false, .int .i32 0, .sl true [], .str [], .bool false, .int .i32 0, .sl true [], .str [], .sl true [], .int .u32 0, .int .u64 0, .str []]⟩ := ⟨by kernel_rfl, by kernel_rfl, by kernel_rfl, by kernel_rfl⟩
theorem row57 : RowOk Tryz.prog 57 ⟨.func, 1, 8, .nilf⟩ := ⟨by kernel_rfl, by kernel_rfl, by kernel_rfl, by kernel_rfl⟩
theorem row58 : RowOk Tryz.prog 58 ⟨.ptr, 1, 8, .nilp⟩ := ⟨by kernel_rfl, by kernel_rfl, by kernel_rfl, by kernel_rfl⟩
theorem row59 : RowOk Tryz.prog 59 ⟨.func, 1, 8, .nilf⟩ := ⟨by kernel_rfl, by kernel_rfl, by kernel_rfl, by kernel_rfl⟩
theorem row60 : RowOk Tryz.prog 60 ⟨.func, 1, 8, .nilf⟩ := ⟨by kernel_rfl, by kernel_rfl, by kernel_rfl, by kernel_rfl⟩
theorem row61 : RowOk Tryz.prog 61 ⟨.func, 1, 8, .nilf⟩ := ⟨by kernel_rfl, by kernel_rfl, by kernel_rfl, by kernel_rfl⟩
theorem row62 : RowOk Tryz.prog 62 ⟨.func, 1, 8, .nilf⟩ := ⟨by kernel_rfl, by kernel_rfl, by kernel_rfl, by kernel_rfl⟩
theorem row63 : RowOk Tryz.prog 63 ⟨.func, 1, 8, .nilf⟩ := ⟨by kernel_rfl, by kernel_rfl, by kernel_rfl, by kernel_rfl⟩
theorem row64 : RowOk Tryz.prog 64 ⟨.sl 117, 1, 24, .sl true []⟩ := ⟨by kernel_rfl, by kernel_rfl, by kernel_rfl, by kernel_rfl⟩
theorem row65 : RowOk Tryz.prog 65 ⟨.struct [(0, 27), (1, 9), (2, 3), (3, 3), (4, 64)], 5, 72, .agg [.nili, .str [], .int .i64 0, .int .i64 0, .sl true []]⟩ := ⟨by kernel_rfl, by kernel_rfl, by kernel_rfl, by kernel_rfl⟩
theorem row66 : RowOk Tryz.prog 66 ⟨.struct [(0, 27), (1, 9), (2, 3), (3, 3), (4, 64)], 5, 72, .agg [.nili, .str [], .int .i64 0, .int .i64 0, .sl true []]⟩ := ⟨by kernel_rfl, by kernel_rfl, by kernel_rfl, by kernel_rfl⟩
theorem row67 : RowOk Tryz.prog 67 ⟨.sl 71, 1, 24, .sl true []⟩ := ⟨by kernel_rfl, by kernel_rfl, by kernel_rfl, by kernel_rfl⟩
theorem row69 : RowOk Tryz.prog 69 ⟨.func, 1, 8, .nilf⟩ := ⟨by kernel_rfl, by kernel_rfl, by kernel_rfl, by kernel_rfl⟩
theorem row70 : RowOk Tryz.prog 70 ⟨.struct [(0, 3), (1, 3), (2, 46), (3, 9), (4, 9)], 5, 56, .agg [.int .i64 0, .int .i64 0, .int .u64 0, .str [], .str []]⟩ := ⟨by kernel_rfl, by kernel_rfl, by kernel_rfl, by kernel_rfl⟩
theorem row71 : RowOk Tryz.prog 71 ⟨.struct [(0, 3), (1, 3), (2, 46), (3, 9), (4, 9)], 5, 56, .agg [.int .i64 0, .int .i64 0, .int .u64 0, .str [], .str []]⟩ := ⟨by kernel_rfl, by kernel_rfl, by kernel_rfl, by kernel_rfl⟩
theorem row72 : RowOk Tryz.prog 72 ⟨.func, 1, 8, .nilf⟩ := ⟨by kernel_rfl, by kernel_rfl, by kernel_rfl, by kernel_rfl⟩
theorem row73 : RowOk Tryz.prog 73 ⟨.sl 3, 1, 24, .sl true []⟩ := ⟨by kernel_rfl, by kernel_rfl, by kernel_rfl, by kernel_rfl⟩
theorem row74 : RowOk Tryz.prog 74 ⟨.func, 1, 8, .nilf⟩ := ⟨by kernel_rfl, by kernel_rfl, by kernel_rfl, by kernel_rfl⟩
theorem row76 : RowOk Tryz.prog 76 ⟨.func, 1, 8, .nilf⟩ := ⟨by kernel_rfl, by kernel_rfl, by kernel_rfl, by kernel_rfl⟩
theorem row78 : RowOk Tryz.prog 78 ⟨.func, 1, 8, .nilf⟩ := ⟨by kernel_rfl, by kernel_rfl, by kernel_rfl, by kernel_rfl⟩
theorem row79 : RowOk Tryz.prog 79 ⟨.func, 1, 8, .nilf⟩ := ⟨by kernel_rfl, by kernel_rfl, by kernel_rfl, by kernel_rfl⟩
theorem row80 : RowOk Tryz.prog 80 ⟨.func, 1, 8, .nilf⟩ := ⟨by kernel_rfl, by kernel_rfl, by kernel_rfl, by kernel_rfl⟩
theorem row81 : RowOk Tryz.prog 81 ⟨.int .u64, 1, 8, .int .u64 0⟩ := ⟨by kernel_rfl, by kernel_rfl, by kernel_rfl, by kernel_rfl⟩
theorem row82 : RowOk Tryz.prog 82 ⟨.func, 1, 8, .nilf⟩ := ⟨by kernel_rfl, by kernel_rfl, by kernel_rfl, by kernel_rfl⟩
theorem row83 : RowOk Tryz.prog 83 ⟨.ptr, 1, 8, .nilp⟩ := ⟨by kernel_rfl, by kernel_rfl, by kernel_rfl, by kernel_rfl⟩
theorem row84 : RowOk Tryz.prog 84 ⟨.func, 1, 8, .nilf⟩ := ⟨by kernel_rfl, by kernel_rfl, by kernel_rfl, by kernel_rfl⟩
theorem row85 : RowOk Tryz.prog 85 ⟨.func, 1, 8, .nilf⟩ := ⟨by kernel_rfl, by kernel_rfl, by kernel_rfl, by kernel_rfl⟩
theorem row86 : RowOk Tryz.prog 86 ⟨.ptr, 1, 8, .nilp⟩ := ⟨by kernel_rfl, by kernel_rfl, by kernel_rfl, by kernel_rfl⟩
theorem row87 : RowOk Tryz.prog 87 ⟨.sl 5, 1, 24, .sl true []⟩ := ⟨by kernel_rfl, by kernel_rfl, by kernel_rfl, by kernel_rfl⟩
theorem row88 : RowOk Tryz.prog 88 ⟨.struct [(0, 86), (1, 87)], 2, 32, .agg [.nilp, .sl true []]⟩ := ⟨by kernel_rfl, by kernel_rfl, by kernel_rfl, by kernel_rfl⟩
theorem row89 : RowOk Tryz.prog 89 ⟨.struct [(0, 86), (1, 87)], 2, 32, .agg [.nilp, .sl true []]⟩ := ⟨by kernel_rfl, by kernel_rfl, by kernel_rfl, by kernel_rfl⟩
theorem row90 : RowOk Tryz.prog 90 ⟨.struct [(0, 89)], 2, 32, .agg [.nilp, .sl true []]⟩ := ⟨by kernel_rfl, by kernel_rfl, by kernel_rfl, by kernel_rfl⟩
theorem row91 : RowOk Tryz.prog 91 ⟨.struct [(0, 89)], 2, 32, .agg [.nilp, .sl true []]⟩ := ⟨by kernel_rfl, by kernel_rfl, by kernel_rfl, by kernel_rfl⟩
theorem row92 : RowOk Tryz.prog 92 ⟨.func, 1, 8, .nilf⟩ := ⟨by kernel_rfl, by kernel_rfl, by kernel_rfl, by kernel_rfl⟩
theorem row93 : RowOk Tryz.prog 93 ⟨.func, 1, 8, .nilf⟩ := ⟨by kernel_rfl, by kernel_rfl, by kernel_rfl, by kernel_rfl⟩
theorem row94 : RowOk Tryz.prog 94 ⟨.func, 1, 8, .nilf⟩ := ⟨by kernel_rfl, by kernel_rfl, by kernel_rfl, by kernel_rfl⟩
theorem row95 : RowOk Tryz.prog 95 ⟨.func, 1, 8, .nilf⟩ := ⟨by kernel_rfl, by kernel_rfl, by kernel_rfl, by kernel_rfl⟩
theorem row96 : RowOk Tryz.prog 96 ⟨.func, 1, 8, .nilf⟩ := ⟨by kernel_rfl, by kernel_rfl, by kernel_rfl, by kernel_rfl⟩
theorem row97 : RowOk Tryz.prog 97 ⟨.func, 1, 8, .nilf⟩ := ⟨by kernel_rfl, by kernel_rfl, by kernel_rfl, by kernel_rfl⟩
theorem row98 : RowOk Tryz.prog 98 ⟨.func, 1, 8, .nilf⟩ := ⟨by kernel_rfl, by kernel_rfl, by kernel_rfl, by kernel_rfl⟩
theorem row99 : RowOk Tryz.prog 99 ⟨.func, 1, 8, .nilf⟩ := ⟨by kernel_rfl, by kernel_rfl, by kernel_rfl, by kernel_rfl⟩
theorem row100 : RowOk Tryz.prog 100 ⟨.func, 1, 8, .nilf⟩ := ⟨by kernel_rfl, by kernel_rfl, by kernel_rfl, by kernel_rfl⟩
theorem row101 : RowOk Tryz.prog 101 ⟨.sl 103, 1, 24, .sl true []⟩ := ⟨by kernel_rfl, by kernel_rfl, by kernel_rfl, by kernel_rfl⟩
theorem row102 : RowOk Tryz.prog 102 ⟨.struct [(0, 3), (1, 9), (2, 4), (3, 46), (4, 101), (5, 49), (6, 9), (7, 9)], 8, 120, .agg [.int .i64 0, .str [], .bool false, .int .u64 0, .sl true [], .sl true [], .str [], .str []]⟩ := ⟨by kernel_rfl, by kernel_rfl, by kernel_rfl, by kernel_rfl⟩
theorem row103 : RowOk Tryz.prog 103 ⟨.struct [(0, 3), (1, 9), (2, 4), (3, 46), (4, 101), (5, 49), (6, 9), (7, 9)], 8, 120, .agg [.int .i64 0, .str [], .bool false, .int .u64 0, .sl true [], .sl true [], .str [], .str []]⟩ := ⟨by kernel_rfl, by kernel_rfl, by kernel_rfl, by kernel_rfl⟩
theorem row104 : RowOk Tryz.prog 104 ⟨.struct [(0, 9), (1, 4), (2, 103), (10, 9)], 11, 160, .agg [.str [], .bool false, .int .i64 0, .str [], .bool false, .int .u64 0, .sl true [], .sl true [], .str [], .str [], .str []]⟩ := ⟨by kernel_rfl, by kernel_rfl, by kernel_rfl, by kernel_rfl⟩
theorem row105 : RowOk Tryz.prog 105 ⟨.struct [(0, 9), (1, 4), (2, 103), (10, 9)], 11, 160, .agg [.str [], .bool false, .int .i64 0, .str [], .bool false, .int .u64 0, .sl true [], .sl true [], .str [], .str [], .str []]⟩ := ⟨by kernel_rfl, by kernel_rfl, by kernel_rfl, by kernel_rfl⟩
theorem row106 : RowOk Tryz.prog 106 ⟨.func, 1, 8, .nilf⟩ := ⟨by kernel_rfl, by kernel_rfl, by kernel_rfl, by kernel_rfl⟩
theorem row107 : RowOk Tryz.prog 107 ⟨.func, 1, 8, .nilf⟩ := ⟨by kernel_rfl, by kernel_rfl, by kernel_rfl, by kernel_rfl⟩
theorem row108 : RowOk Tryz.prog 108 ⟨.func, 1, 8, .nilf⟩ := ⟨by kernel_rfl, by kernel_rfl, by kernel_rfl, by kernel_rfl⟩
theorem row109 : RowOk Tryz.prog 109 ⟨.struct [(0, 49), (1, 46), (2, 3), (3, 46), (4, 9), (5, 9), (6, 9)], 7, 96, .agg [.sl true [], .int .u64 0, .int .i64 0, .int .u64 0, .str [], .str [], .str []]⟩ := ⟨by kernel_rfl, by kernel_rfl, by kernel_rfl, by kernel_rfl⟩
theorem row110 : RowOk Tryz.prog 110 ⟨.struct [(0, 49), (1, 46), (2, 3), (3, 46), (4, 9), (5, 9), (6, 9)], 7, 96, .agg [.sl true [], .int .u64 0, .int .i64 0, .int .u64 0, .str [], .str [], .str []]⟩ := ⟨by kernel_rfl, by kernel_rfl, by kernel_rfl, by kernel_rfl⟩
theorem row111 : RowOk Tryz.prog 111 ⟨.func, 1, 8, .nilf⟩ := ⟨by kernel_rfl, by kernel_rfl, by kernel_rfl, by kernel_rfl⟩
theorem row112 : RowOk Tryz.prog 112 ⟨.func, 1, 8, .nilf⟩ := ⟨by kernel_rfl, by kernel_rfl, by kernel_rfl, by kernel_rfl⟩
theorem row113 : RowOk Tryz.prog 113 ⟨.func, 1, 8, .nilf⟩ := ⟨by kernel_rfl, by kernel_rfl, by kernel_rfl, by kernel_rfl⟩
theorem row114 : RowOk Tryz.prog 114 ⟨.func, 1, 8, .nilf⟩ := ⟨by kernel_rfl, by kernel_rfl, by kernel_rfl, by kernel_rfl⟩
theorem row116 : RowOk Tryz.prog 116 ⟨.func, 1, 8, .nilf⟩ := ⟨by kernel_rfl, by kernel_rfl, by kernel_rfl, by kernel_rfl⟩
theorem row117 : RowOk Tryz.prog 117 ⟨.struct [(0, 3), (1, 3), (2, 46), (3, 9), (4, 9)], 5, 56, .agg [.int .i64 0, .int .i64 0, .int .u64 0, .str [], .str []]⟩ := ⟨by kernel_rfl, by kernel_rfl, by kernel_rfl, by kernel_rfl⟩
theorem row119 : RowOk Tryz.prog 119 ⟨.func, 1, 8, .nilf⟩ := ⟨by kernel_rfl, by kernel_rfl, by kernel_rfl, by kernel_rfl⟩
theorem row120 : RowOk Tryz.prog 120 ⟨.func, 1, 8, .nilf⟩ := ⟨by kernel_rfl, by kernel_rfl, by kernel_rfl, by kernel_rfl⟩
theorem row121 : RowOk Tryz.prog 121 ⟨.func, 1, 8, .nilf⟩ := ⟨by kernel_rfl, by kernel_rfl, by kernel_rfl, by kernel_rfl⟩
theorem row122 : RowOk Tryz.prog 122 ⟨.func, 1, 8, .nilf⟩ := ⟨by kernel_rfl, by kernel_rfl, by kernel_rfl, by kernel_rfl⟩
theorem row123 : RowOk Tryz.prog 123 ⟨.func, 1, 8, .nilf⟩ := ⟨by kernel_rfl, by kernel_rfl, by kernel_rfl, by kernel_rfl⟩
theorem row125 : RowOk Tryz.prog 125 ⟨.func, 1, 8, .nilf⟩ := ⟨by kernel_rfl, by kernel_rfl, by kernel_rfl, by kernel_rfl⟩
theorem row126 : RowOk Tryz.prog 126 ⟨.ptr, 1, 8, .nilp⟩ := ⟨by kernel_rfl, by kernel_rfl, by kernel_rfl, by kernel_rfl⟩
theorem row127 : RowOk Tryz.prog 127 ⟨.ptr, 1, 8, .nilp⟩ := ⟨by kernel_rfl, by kernel_rfl, by kernel_rfl, by kernel_rfl⟩
theorem row128 : RowOk Tryz.prog 128 ⟨.struct [(0, 3), (1, 27)], 2, 24, .agg [.int .i64 0, .nili]⟩ := ⟨by kernel_rfl, by kernel_rfl, by kernel_rfl, by kernel_rfl⟩
theorem row129 : RowOk Tryz.prog 129 ⟨.struct [(0, 3), (1, 27)], 2, 24, .agg [.int .i64 0, .nili]⟩ := ⟨by kernel_rfl, by kernel_rfl, by kernel_rfl, by kernel_rfl⟩
theorem row134 : RowOk Tryz.prog 134 ⟨.func, 1, 8, .nilf⟩ := ⟨by kernel_rfl, by kernel_rfl, by kernel_rfl, by kernel_rfl⟩
theorem row135 : RowOk Tryz.prog 135 ⟨.iface, 1, 16, .nili⟩ := ⟨by kernel_rfl, by kernel_rfl, by kernel_rfl, by kernel_rfl⟩
theorem row137 : RowOk Tryz.prog 137 ⟨.func, 1, 8, .nilf⟩ := ⟨by kernel_rfl, by kernel_rfl, by kernel_rfl, by kernel_rfl⟩
theorem row139 : RowOk Tryz.prog 139 ⟨.func, 1, 8, .nilf⟩ := ⟨by kernel_rfl, by kernel_rfl, by kernel_rfl, by kernel_rfl⟩
theorem row140 : RowOk Tryz.prog 140 ⟨.func, 1, 8, .nilf⟩ := ⟨by kernel_rfl, by kernel_rfl, by kernel_rfl, by kernel_rfl⟩
theorem row141 : RowOk Tryz.prog 141 ⟨.func, 1, 8, .nilf⟩ := ⟨by kernel_rfl, by kernel_rfl, by kernel_rfl, by kernel_rfl⟩
theorem row142 : RowOk Tryz.prog 142 ⟨.ptr, 1, 8, .nilp⟩ := ⟨by kernel_rfl, by kernel_rfl, by kernel_rfl, by kernel_rfl⟩
theorem row143 : RowOk Tryz.prog 143 ⟨.func, 1, 8, .nilf⟩ := ⟨by kernel_rfl, by kernel_rfl, by kernel_rfl, by kernel_rfl⟩
theorem row144 : RowOk Tryz.prog 144 ⟨.func, 1, 8, .nilf⟩ := ⟨by kernel_rfl, by kernel_rfl, by kernel_rfl, by kernel_rfl⟩
theorem row145 : RowOk Tryz.prog 145 ⟨.func, 1, 8, .nilf⟩ := ⟨by kernel_rfl, by kernel_rfl, by kernel_rfl, by kernel_rfl⟩
theorem row146 : RowOk Tryz.prog 146 ⟨.func, 1, 8, .nilf⟩ := ⟨by kernel_rfl, by kernel_rfl, by kernel_rfl, by kernel_rfl⟩
theorem row147 : RowOk Tryz.prog 147 ⟨.func, 1, 8, .nilf⟩ := ⟨by kernel_rfl, by kernel_rfl, by kernel_rfl, by kernel_rfl⟩
theorem row149 : RowOk Tryz.prog 149 ⟨.func, 1, 8, .nilf⟩ := ⟨by kernel_rfl, by kernel_rfl, by kernel_rfl, by kernel_rfl⟩
theorem row150 : RowOk Tryz.prog 150 ⟨.func, 1, 8, .nilf⟩ := ⟨by kernel_rfl, by kernel_rfl, by kernel_rfl, by kernel_rfl⟩
theorem row151 : RowOk Tryz.prog 151 ⟨.func, 1, 8, .nilf⟩ := ⟨by kernel_rfl, by kernel_rfl, by kernel_rfl, by kernel_rfl⟩
theorem row153 : RowOk Tryz.prog 153 ⟨.func, 1, 8, .nilf⟩ := ⟨by kernel_rfl, by kernel_rfl, by kernel_rfl, by kernel_rfl⟩
theorem row154 : RowOk Tryz.prog 154 ⟨.func, 1, 8, .nilf⟩ := ⟨by kernel_rfl, by kernel_rfl, by kernel_rfl, by kernel_rfl⟩
theorem row155 : RowOk Tryz.prog 155 ⟨.func, 1, 8, .nilf⟩ := ⟨by kernel_rfl, by kernel_rfl, by kernel_rfl, by kernel_rfl⟩
theorem row156 : RowOk Tryz.prog 156 ⟨.ptr, 1, 8, .nilp⟩ := ⟨by kernel_rfl, by kernel_rfl, by kernel_rfl, by kernel_rfl⟩
theorem row157 : RowOk Tryz.prog 157 ⟨.struct [(0, 9), (1, 3), (2, 27), (3, 3)], 4, 48, .agg [.str [], .int .i64 0, .nili, .int .i64 0]⟩ := ⟨by kernel_rfl, by kernel_rfl, by kernel_rfl, by kernel_rfl⟩
theorem row158 : RowOk Tryz.prog 158 ⟨.struct [(0, 9), (1, 3), (2, 27), (3, 3)], 4, 48, .agg [.str [], .int .i64 0, .nili, .int .i64 0]⟩ := ⟨by kernel_rfl, by kernel_rfl, by kernel_rfl, by kernel_rfl⟩
theorem row159 : RowOk Tryz.prog 159 ⟨.func, 1, 8, .nilf⟩ := ⟨by kernel_rfl, by kernel_rfl, by kernel_rfl, by kernel_rfl⟩
theorem row160 : RowOk Tryz.prog 160 ⟨.ptr, 1, 8, .nilp⟩ := ⟨by kernel_rfl, by kernel_rfl, by kernel_rfl, by kernel_rfl⟩
theorem row162 : RowOk Tryz.prog 162 ⟨.func, 1, 8, .nilf⟩ := ⟨by kernel_rfl, by kernel_rfl, by kernel_rfl, by kernel_rfl⟩
theorem row164 : RowOk Tryz.prog 164 ⟨.func, 1, 8, .nilf⟩ := ⟨by kernel_rfl, by kernel_rfl, by kernel_rfl, by kernel_rfl⟩
theorem row165 : RowOk Tryz.prog 165 ⟨.struct [(0, 17)], 1, 8, .agg [.nilp]⟩ := ⟨by kernel_rfl, by kernel_rfl, by kernel_rfl, by kernel_rfl⟩
theorem row168 : RowOk Tryz.prog 168 ⟨.func, 1, 8, .nilf⟩ := ⟨by kernel_rfl, by kernel_rfl, by kernel_rfl, by kernel_rfl⟩
theorem row169 : RowOk Tryz.prog 169 ⟨.func, 1, 8, .nilf⟩ := ⟨by kernel_rfl, by kernel_rfl, by kernel_rfl, by kernel_rfl⟩
theorem row170 : RowOk Tryz.prog 170 ⟨.func, 1, 8, .nilf⟩ := ⟨by kernel_rfl, by kernel_rfl, by kernel_rfl, by kernel_rfl⟩
theorem row171 : RowOk Tryz.prog 171 ⟨.iface, 1, 16, .nili⟩ := ⟨by kernel_rfl, by kernel_rfl, by kernel_rfl, by kernel_rfl⟩
theorem row173 : RowOk Tryz.prog 173 ⟨.func, 1, 8, .nilf⟩ := ⟨by kernel_rfl, by kernel_rfl, by kernel_rfl, by kernel_rfl⟩
theorem row174 : RowOk Tryz.prog 174 ⟨.iface, 1, 16, .nili⟩ := ⟨by kernel_rfl, by kernel_rfl, by kernel_rfl, by kernel_rfl⟩
theorem row175 : RowOk Tryz.prog 175 ⟨.func, 1, 8, .nilf⟩ := ⟨by kernel_rfl, by kernel_rfl, by kernel_rfl, by kernel_rfl⟩
theorem row176 : RowOk Tryz.prog 176 ⟨.iface, 1, 16, .nili⟩ := ⟨by kernel_rfl, by kernel_rfl, by kernel_rfl, by kernel_rfl⟩
theorem row177 : RowOk Tryz.prog 177 ⟨.sl 27, 1, 24, .sl true []⟩ := ⟨by kernel_rfl, by kernel_rfl, by kernel_rfl, by kernel_rfl⟩
theorem row178 : RowOk Tryz.prog 178 ⟨.func, 1, 8, .nilf⟩ := ⟨by kernel_rfl, by kernel_rfl, by kernel_rfl, by kernel_rfl⟩
theorem row180 : RowOk Tryz.prog 180 ⟨.func, 1, 8, .nilf⟩ := ⟨by kernel_rfl, by kernel_rfl, by kernel_rfl, by kernel_rfl⟩
theorem row181 : RowOk Tryz.prog 181 ⟨.func, 1, 8, .nilf⟩ := ⟨by kernel_rfl, by kernel_rfl, by kernel_rfl, by kernel_rfl⟩
theorem row182 : RowOk Tryz.prog 182 ⟨.sl 9, 1, 24, .sl true []⟩ := ⟨by kernel_rfl, by kernel_rfl, by kernel_rfl, by kernel_rfl⟩
theorem row183 : RowOk Tryz.prog 183 ⟨.struct [(0, 3), (1, 46), (2, 9), (3, 182)], 4, 56, .agg [.int .i64 0, .int .u64 0, .str [], .sl true []]⟩ := ⟨by kernel_rfl, by kernel_rfl, by kernel_rfl, by kernel_rfl⟩
theorem row184 : RowOk Tryz.prog 184 ⟨.struct [(0, 3), (1, 46), (2, 9), (3, 182)], 4, 56, .agg [.int .i64 0, .int .u64 0, .str [], .sl true []]⟩ := ⟨by kernel_rfl, by kernel_rfl, by kernel_rfl, by kernel_rfl⟩
theorem row185 : RowOk Tryz.prog 185 ⟨.func, 1, 8, .nilf⟩ := ⟨by kernel_rfl, by kernel_rfl, by kernel_rfl, by kernel_rfl⟩
theorem row186 : RowOk Tryz.prog 186 ⟨.struct [(0, 101), (1, 9)], 2, 40, .agg [.sl true [], .str []]⟩ := ⟨by kernel_rfl, by kernel_rfl, by kernel_rfl, by kernel_rfl⟩
theorem row187 : RowOk Tryz.prog 187 ⟨.struct [(0, 101), (1, 9)], 2, 40, .agg [.sl true [], .str []]⟩ := ⟨by kernel_rfl, by kernel_rfl, by kernel_rfl, by kernel_rfl⟩
theorem row188 : RowOk Tryz.prog 188 ⟨.func, 1, 8, .nilf⟩ := ⟨by kernel_rfl, by kernel_rfl, by kernel_rfl, by kernel_rfl⟩
theorem row189 : RowOk Tryz.prog 189 ⟨.func, 1, 8, .nilf⟩ := ⟨by kernel_rfl, by kernel_rfl, by kernel_rfl, by kernel_rfl⟩
theorem row190 : RowOk Tryz.prog 190 ⟨.func, 1, 8, .nilf⟩ := ⟨by kernel_rfl, by kernel_rfl, by kernel_rfl, by kernel_rfl⟩
theorem row191 : RowOk Tryz.prog 191 ⟨.struct [(0, 49), (1, 9)], 2, 40, .agg [.sl true [], .str []]⟩ := ⟨by kernel_rfl, by kernel_rfl, by kernel_rfl, by kernel_rfl⟩
theorem row192 : RowOk Tryz.prog 192 ⟨.struct [(0, 49), (1, 9)], 2, 40, .agg [.sl true [], .str []]⟩ := ⟨by kernel_rfl, by kernel_rfl, by kernel_rfl, by kernel_rfl⟩
theorem row193 : RowOk Tryz.prog 193 ⟨.func, 1, 8, .nilf⟩ := ⟨by kernel_rfl, by kernel_rfl, by kernel_rfl, by kernel_rfl⟩
theorem row194 : RowOk Tryz.prog 194 ⟨.func, 1, 8, .nilf⟩ := ⟨by kernel_rfl, by kernel_rfl, by kernel_rfl, by kernel_rfl⟩
theorem row195 : RowOk Tryz.prog 195 ⟨.func, 1, 8, .nilf⟩ := ⟨by kernel_rfl, by kernel_rfl, by kernel_rfl, by kernel_rfl⟩
theorem row197 : RowOk Tryz.prog 197 ⟨.ptr, 1, 8, .nilp⟩ := ⟨by kernel_rfl, by kernel_rfl, by kernel_rfl, by kernel_rfl⟩
theorem row198 : RowOk Tryz.prog 198 ⟨.struct [(0, 3), (1, 27)], 2, 24, .agg [.int .i64 0, .nili]⟩ := ⟨by kernel_rfl, by kernel_rfl, by kernel_rfl, by kernel_rfl⟩
theorem row199 : RowOk Tryz.prog 199 ⟨.struct [(0, 3), (1, 27)], 2, 24, .agg [.int .i64 0, .nili]⟩ := ⟨by kernel_rfl, by kernel_rfl, by kernel_rfl, by kernel_rfl⟩
theorem row201 : RowOk Tryz.prog 201 ⟨.func, 1, 8, .nilf⟩ := ⟨by kernel_rfl, by kernel_rfl, by kernel_rfl, by kernel_rfl⟩
theorem row202 : RowOk Tryz.prog 202 ⟨.func, 1, 8, .nilf⟩ := ⟨by kernel_rfl, by kernel_rfl, by kernel_rfl, by kernel_rfl⟩
theorem row203 : RowOk Tryz.prog 203 ⟨.ptr, 1, 8, .nilp⟩ := ⟨by kernel_rfl, by kernel_rfl, by kernel_rfl, by kernel_rfl⟩
theorem row204 : RowOk Tryz.prog 204 ⟨.func, 1, 8, .nilf⟩ := ⟨by kernel_rfl, by kernel_rfl, by kernel_rfl, by kernel_rfl⟩
theorem row206 : RowOk Tryz.prog 206 ⟨.func, 1, 8, .nilf⟩ := ⟨by kernel_rfl, by kernel_rfl, by kernel_rfl, by kernel_rfl⟩
theorem row207 : RowOk Tryz.prog 207 ⟨.func, 1, 8, .nilf⟩ := ⟨by kernel_rfl, by kernel_rfl, by kernel_rfl, by kernel_rfl⟩
theorem row208 : RowOk Tryz.prog 208 ⟨.func, 1, 8, .nilf⟩ := ⟨by kernel_rfl, by kernel_rfl, by kernel_rfl, by kernel_rfl⟩
theorem row209 : RowOk Tryz.prog 209 ⟨.func, 1, 8, .nilf⟩ := ⟨by kernel_rfl, by kernel_rfl, by kernel_rfl, by kernel_rfl⟩
theorem row211 : RowOk Tryz.prog 211 ⟨.func, 1, 8, .nilf⟩ := ⟨by kernel_rfl, by kernel_rfl, by kernel_rfl, by kernel_rfl⟩
theorem row212 : RowOk Tryz.prog 212 ⟨.func, 1, 8, .nilf⟩ := ⟨by kernel_rfl, by kernel_rfl, by kernel_rfl, by kernel_rfl⟩
theorem row213 : RowOk Tryz.prog 213 ⟨.func, 1, 8, .nilf⟩ := ⟨by kernel_rfl, by kernel_rfl, by kernel_rfl, by kernel_rfl⟩
theorem row214 : RowOk Tryz.prog 214 ⟨.func, 1, 8, .nilf⟩ := ⟨by kernel_rfl, by kernel_rfl, by kernel_rfl, by kernel_rfl⟩
theorem row215 : RowOk Tryz.prog 215 ⟨.func, 1, 8, .nilf⟩ := ⟨by kernel_rfl, by kernel_rfl, by kernel_rfl, by kernel_rfl⟩
theorem row216 : RowOk Tryz.prog 216 ⟨.func, 1, 8, .nilf⟩ := ⟨by kernel_rfl, by kernel_rfl, by kernel_rfl, by kernel_rfl⟩
theorem row217 : RowOk Tryz.prog 217 ⟨.func, 1, 8, .nilf⟩ := ⟨by kernel_rfl, by kernel_rfl, by kernel_rfl, by kernel_rfl⟩
theorem row218 : RowOk Tryz.prog 218 ⟨.func, 1, 8, .nilf⟩ := ⟨by kernel_rfl, by kernel_rfl, by kernel_rfl, by kernel_rfl⟩
theorem row221 : RowOk Tryz.prog 221 ⟨.func, 1, 8, .nilf⟩ := ⟨by kernel_rfl, by kernel_rfl, by kernel_rfl, by kernel_rfl⟩
theorem row222 : RowOk Tryz.prog 222 ⟨.func, 1, 8, .nilf⟩ := ⟨by kernel_rfl, by kernel_rfl, by kernel_rfl, by kernel_rfl⟩
theorem row223 : RowOk Tryz.prog 223 ⟨.func, 1, 8, .nilf⟩ := ⟨by kernel_rfl, by kernel_rfl, by kernel_rfl, by kernel_rfl⟩
theorem row224 : RowOk Tryz.prog 224 ⟨.func, 1, 8, .nilf⟩ := ⟨by kernel_rfl, by kernel_rfl, by kernel_rfl, by kernel_rfl⟩
theorem row225 : RowOk Tryz.prog 225 ⟨.func, 1, 8, .nilf⟩ := ⟨by kernel_rfl, by kernel_rfl, by kernel_rfl, by kernel_rfl⟩
theorem row226 : RowOk Tryz.prog 226 ⟨.struct [(0, 17), (1, 17), (2, 17), (3, 9)], 4, 40, .agg [.nilp, .nilp, .nilp, .str []]⟩ := ⟨by kernel_rfl, by kernel_rfl, by kernel_rfl, by kernel_rfl⟩
theorem row231 : RowOk Tryz.prog 231 ⟨.func, 1, 8, .nilf⟩ := ⟨by kernel_rfl, by kernel_rfl, by kernel_rfl, by kernel_rfl⟩
theorem row232 : RowOk Tryz.prog 232 ⟨.func, 1, 8, .nilf⟩ := ⟨by kernel_rfl, by kernel_rfl, by kernel_rfl, by kernel_rfl⟩
theorem row234 : RowOk Tryz.prog 234 ⟨.func, 1, 8, .nilf⟩ := ⟨by kernel_rfl, by kernel_rfl, by kernel_rfl, by kernel_rfl⟩
theorem row237 : RowOk Tryz.prog 237 ⟨.struct [(0, 12), (1, 12), (2, 53), (3, 233), (4, 5), (5, 5), (6, 138), (7, 234), (8, 160), (9, 235), (10, 236)], 11, 48, .agg [.int .u64 0, .int .u64 0, .int .u32 0, .int .u8 0, .int .u8 0, .int .u8 0, .int .u8 0, .nilf, .nilp, .int .i32 0, .int .i32 0]⟩ := ⟨by kernel_rfl, by kernel_rfl, by kernel_rfl, by kernel_rfl⟩
theorem row239 : RowOk Tryz.prog 239 ⟨.func, 1, 8, .nilf⟩ := ⟨by kernel_rfl, by kernel_rfl, by kernel_rfl, by kernel_rfl⟩
theorem row240 : RowOk Tryz.prog 240 ⟨.func, 1, 8, .nilf⟩ := ⟨by kernel_rfl, by kernel_rfl, by kernel_rfl, by kernel_rfl⟩
theorem row241 : RowOk Tryz.prog 241 ⟨.struct [(0, 9), (1, 138)], 2, 24, .agg [.str [], .int .u8 0]⟩ := ⟨by kernel_rfl, by kernel_rfl, by kernel_rfl, by kernel_rfl⟩
theorem row244 : RowOk Tryz.prog 244 ⟨.func, 1, 8, .nilf⟩ := ⟨by kernel_rfl, by kernel_rfl, by kernel_rfl, by kernel_rfl⟩
theorem row245 : RowOk Tryz.prog 245 ⟨.int .u16, 1, 2, .int .u16 0⟩ := ⟨by kernel_rfl, by kernel_rfl, by kernel_rfl, by kernel_rfl⟩
theorem row246 : RowOk Tryz.prog 246 ⟨.struct [(0, 235), (1, 245), (2, 245), (3, 53), (4, 53)], 5, 16, .agg [.int .i32 0, .int .u16 0, .int .u16 0, .int .u32 0, .int .u32 0]⟩ := ⟨by kernel_rfl, by kernel_rfl, by kernel_rfl, by kernel_rfl⟩
theorem row248 : RowOk Tryz.prog 248 ⟨.sl 251, 1, 24, .sl true []⟩ := ⟨by kernel_rfl, by kernel_rfl, by kernel_rfl, by kernel_rfl⟩
theorem row250 : RowOk Tryz.prog 250 ⟨.struct [(0, 235), (1, 236), (2, 249), (3, 249)], 4, 16, .agg [.int .i32 0, .int .i32 0, .int .i32 0, .int .i32 0]⟩ := ⟨by kernel_rfl, by kernel_rfl, by kernel_rfl, by kernel_rfl⟩
theorem row252 : RowOk Tryz.prog 252 ⟨.ptr, 1, 8, .nilp⟩ := ⟨by kernel_rfl, by kernel_rfl, by kernel_rfl, by kernel_rfl⟩
theorem rows_ok : AllRows Tryz.prog rows := ⟨row1, row2, row3, row4, row5, row7, row9, row12, row13, row18, row20, row21, row22, row23, row24, row25, row26, row27, row29, row30, row32, row33, row34, row35, row36, row37, row38, row39, row40, row42, row43, row44, row45, row46, row47, row48, row49, row50, row51, row52, row53, row54, row55, row57, row58, row59, row60, row61, row62, row63, row64, row65, row66, row67, row69, row70, row71, row72, row73, row74, row76, row78, row79, row80, row81, row82, row83, row84, row85, row86, row87, row88, row89, row90, row91, row92, row93, row94, row95, row96, row97, row98, row99, row100, row101, row102, row103, row104, row105, row106, row107, row108, row109, row110, row111, row112, row113, row114, row116, row117, row119, row120, row121, row122, row123, row125, row126, row127, row128, row129, row134, row135, row137, row139, row140, row141, row142, row143, row144, row145, row146, row147, row149, row150, row151, row153, row154, row155, row156, row157, row158, row159, row160, row162, row164, row165, row168, row169, row170, row171, row173, row174, row175, row176, row177, row178, row180, row181, row182, row183, row184, row185, row186, row187, row188, row189, row190, row191, row192, row193, row194, row195, row197, row198, row199, row201, row202, row203, row204, row206, row207, row208, row209, row211, row212, row213, row214, row215, row216, row217, row218, row221, row222, row223, row224, row225, row226, row231, row232, row234, row237, row239, row240, row241, row244, row245, row246, row248, row250, row252, trivial⟩
noncomputable def cx (base : Fr) : Ctx := { P := Tryz.prog, tab := look rows, base := base, ok := fun t i h => look_ok rows_ok t i h, mixed := by kernel_rfl }
end Go.Proofs.YtfbckigcelmopaaGreatDoor
