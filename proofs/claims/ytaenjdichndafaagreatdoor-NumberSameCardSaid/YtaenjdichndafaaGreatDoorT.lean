/- The types of the program, as a table; the context of the abstract semantics. Printed by table.py. -/
import Derived.Test.YtaenjdichndafaaGreatDoorProg
import Derived.Test.YtaenjdichndafaaGreatDoorAb
import Derived.KernelRfl
set_option maxRecDepth 100000
namespace Go.Proofs.YtaenjdichndafaaGreatDoor
open Go Go.Abs
def look : List (Nat × Ti) → Nat → Option Ti
  | [], _ => none
  | (k, i) :: r, t => bif Nat.beq k t then some i else look r t
def rows : List (Nat × Ti) := [
  (1, ⟨.func, 1, 8, .nilf⟩),
  (2, ⟨.int .i64, 1, 8, .int .i64 0⟩),
  (3, ⟨.int .i64, 1, 8, .int .i64 0⟩),
  (4, ⟨.bool, 1, 1, .bool false⟩),
  (5, ⟨.int .u8, 1, 1, .int .u8 0⟩),
  (7, ⟨.struct [(0, 2), (1, 3), (2, 4), (3, 6)], 4, 24, .agg [.int .i64 0, .int .i64 0, .bool false, .int .u8 0]⟩),
  (9, ⟨.str, 1, 16, .str []⟩),
  (12, ⟨.int .u64, 1, 8, .int .u64 0⟩),
  (13, ⟨.struct [(0, 9), (1, 12)], 2, 24, .agg [.str [], .int .u64 0]⟩),
  (18, ⟨.struct [(0, 17)], 1, 8, .agg [.nilp]⟩),
  (20, ⟨.iface, 1, 16, .nili⟩),
  (21, ⟨.int .i32, 1, 4, .int .i32 0⟩),
  (22, ⟨.func, 1, 8, .nilf⟩),
  (23, ⟨.sl 70, 1, 24, .sl true []⟩),
  (24, ⟨.int .u64, 1, 8, .int .u64 0⟩),
  (25, ⟨.struct [(0, 23), (1, 24), (2, 3), (3, 24), (4, 9), (5, 9), (6, 9)], 7, 96, .agg [.sl true [], .int .u64 0, .int .i64 0, .int .u64 0, .str [], .str [], .str []]⟩),
  (26, ⟨.struct [(0, 23), (1, 24), (2, 3), (3, 24), (4, 9), (5, 9), (6, 9)], 7, 96, .agg [.sl true [], .int .u64 0, .int .i64 0, .int .u64 0, .str [], .str [], .str []]⟩),
  (27, ⟨.iface, 1, 16, .nili⟩),
  (28, ⟨.iface, 1, 16, .nili⟩),
  (30, ⟨.func, 1, 8, .nilf⟩),
  (32, ⟨.func, 1, 8, .nilf⟩),
  (33, ⟨.func, 1, 8, .nilf⟩),
  (34, ⟨.func, 1, 8, .nilf⟩),
  (35, ⟨.func, 1, 8, .nilf⟩),
  (36, ⟨.func, 1, 8, .nilf⟩),
  (37, ⟨.func, 1, 8, .nilf⟩),
  (38, ⟨.int .i64, 1, 8, .int .i64 0⟩),
  (39, ⟨.func, 1, 8, .nilf⟩),
  (40, ⟨.func, 1, 8, .nilf⟩),
  (42, ⟨.func, 1, 8, .nilf⟩),
  (43, ⟨.func, 1, 8, .nilf⟩),
  (44, ⟨.func, 1, 8, .nilf⟩),
  (45, ⟨.func, 1, 8, .nilf⟩),
  (46, ⟨.func, 1, 8, .nilf⟩),
  (47, ⟨.sl 26, 1, 24, .sl true []⟩),
  (48, ⟨.int .u32, 1, 4, .int .u32 0⟩),
  (49, ⟨.struct [(0, 23), (1, 24), (2, 24), (3, 3), (4, 24), (5, 47), (6, 48), (7, 9)], 8, 104, .agg [.sl true [], .int .u64 0, .int .u64 0, .int .i64 0, .int .u64 0, .sl true [], .int .u32 0, .str []]⟩),
  (50, ⟨.struct [(0, 23), (1, 24), (2, 24), (3, 3), (4, 24), (5, 47), (6, 48), (7, 9)], 8, 104, .agg [.sl true [], .int .u64 0, .int .u64 0, .int .i64 0, .int .u64 0, .sl true [], .int .u32 0, .str []]⟩),
  (52, ⟨.func, 1, 8, .nilf⟩),
  (53, ⟨.func, 1, 8, .nilf⟩),
  (54, ⟨.func, 1, 8, .nilf⟩),
  (55, ⟨.func, 1, 8, .nilf⟩),
  (56, ⟨.func, 1, 8, .nilf⟩),
  (57, ⟨.func, 1, 8, .nilf⟩),
  (59, ⟨.func, 1, 8, .nilf⟩),
  (60, ⟨.ptr, 1, 8, .nilp⟩),
  (61, ⟨.func, 1, 8, .nilf⟩),
  (62, ⟨.func, 1, 8, .nilf⟩),
  (63, ⟨.func, 1, 8, .nilf⟩),
  (64, ⟨.func, 1, 8, .nilf⟩),
  (65, ⟨.func, 1, 8, .nilf⟩),
  (66, ⟨.sl 68, 1, 24, .sl true []⟩),
  (67, ⟨.struct [(0, 3), (1, 9), (2, 4), (3, 24), (4, 66), (5, 23), (6, 9), (7, 9)], 8, 120, .agg [.int .i64 0, .str [], .bool false, .int .u64 0, .sl true [], .sl true [], .str [], .str []]⟩),
  (68, ⟨.struct [(0, 3), (1, 9), (2, 4), (3, 24), (4, 66), (5, 23), (6, 9), (7, 9)], 8, 120, .agg [.int .i64 0, .str [], .bool false, .int .u64 0, .sl true [], .sl true [], .str [], .str []]⟩),
  (69, ⟨.struct [(0, 9), (1, 4), (2, 68), (10, 9)], 11, 160, .agg [.str [], .bool false, .int .i64 0, .str [], .bool false, .int .u64 0, .sl true [], .sl true [], .str [], .str [], .str []]⟩),
  (70, ⟨.struct [(0, 9), (1, 4), (2, 68), (10, 9)], 11, 160, .agg [.str [], .bool false, .int .i64 0, .str [], .bool false, .int .u64 0, .sl true [], .sl true [], .str [], .str [], .str []]⟩),
  (71, ⟨.func, 1, 8, .nilf⟩),
  (72, ⟨.sl 125, 1, 24, .sl true []⟩),
  (73, ⟨.struct [(0, 28), (1, 9), (2, 3), (3, 3), (4, 72)], 5, 72, .agg [.nili, .str [], .int .i64 0, .int .i64 0, .sl true []]⟩),
  (74, ⟨.struct [(0, 28), (1, 9), (2, 3), (3, 3), (4, 72)], 5, 72, .agg [.nili, .str [], .int .i64 0, .int .i64 0, .sl true []]⟩),
  (76, ⟨.func, 1, 8, .nilf⟩),
  (77, ⟨.sl 81, 1, 24, .sl true []⟩),
  (79, ⟨.func, 1, 8, .nilf⟩),
  (80, ⟨.struct [(0, 3), (1, 3), (2, 24), (3, 9), (4, 9)], 5, 56, .agg [.int .i64 0, .int .i64 0, .int .u64 0, .str [], .str []]⟩),
  (81, ⟨.struct [(0, 3), (1, 3), (2, 24), (3, 9), (4, 9)], 5, 56, .agg [.int .i64 0, .int .i64 0, .int .u64 0, .str [], .str []]⟩),
  (82, ⟨.func, 1, 8, .nilf⟩),
  (83, ⟨.sl 3, 1, 24, .sl true []⟩),
  (84, ⟨.func, 1, 8, .nilf⟩),
  (86, ⟨.func, 1, 8, .nilf⟩),
  (88, ⟨.func, 1, 8, .nilf⟩),
  (89, ⟨.func, 1, 8, .nilf⟩),
  (90, ⟨.func, 1, 8, .nilf⟩),
  (91, ⟨.int .u64, 1, 8, .int .u64 0⟩),
  (92, ⟨.func, 1, 8, .nilf⟩),
  (93, ⟨.ptr, 1, 8, .nilp⟩),
  (94, ⟨.func, 1, 8, .nilf⟩),
  (95, ⟨.ptr, 1, 8, .nilp⟩),
  (96, ⟨.sl 5, 1, 24, .sl true []⟩),
  (97, ⟨.struct [(0, 95), (1, 96)], 2, 32, .agg [.nilp, .sl true []]⟩),
  (98, ⟨.struct [(0, 95), (1, 96)], 2, 32, .agg [.nilp, .sl true []]⟩),
  (99, ⟨.struct [(0, 98)], 2, 32, .agg [.nilp, .sl true []]⟩),
  (100, ⟨.struct [(0, 98)], 2, 32, .agg [.nilp, .sl true []]⟩),
  (101, ⟨.func, 1, 8, .nilf⟩),
  (102, ⟨.func, 1, 8, .nilf⟩),
  (103, ⟨.func, 1, 8, .nilf⟩),
  (104, ⟨.func, 1, 8, .nilf⟩),
  (105, ⟨.ptr, 1, 8, .nilp⟩),
  (106, ⟨.func, 1, 8, .nilf⟩),
  (107, ⟨.func, 1, 8, .nilf⟩),
  (108, ⟨.func, 1, 8, .nilf⟩),
  (109, ⟨.func, 1, 8, .nilf⟩),
  (110, ⟨.func, 1, 8, .nilf⟩),
  (111, ⟨.func, 1, 8, .nilf⟩),
  (112, ⟨.func, 1, 8, .nilf⟩),
  (113, ⟨.func, 1, 8, .nilf⟩),
  (114, ⟨.func, 1, 8, .nilf⟩),
  (115, ⟨.func, 1, 8, .nilf⟩),
  (116, ⟨.func, 1, 8, .nilf⟩),
  (117, ⟨.func, 1, 8, .nilf⟩),
  (118, ⟨.func, 1, 8, .nilf⟩),
  (119, ⟨.func, 1, 8, .nilf⟩),
  (120, ⟨.func, 1, 8, .nilf⟩),
  (121, ⟨.func, 1, 8, .nilf⟩),
  (122, ⟨.func, 1, 8, .nilf⟩),
  (124, ⟨.func, 1, 8, .nilf⟩),
  (125, ⟨.struct [(0, 3), (1, 3), (2, 24), (3, 9), (4, 9)], 5, 56, .agg [.int .i64 0, .int .i64 0, .int .u64 0, .str [], .str []]⟩),
  (127, ⟨.func, 1, 8, .nilf⟩),
  (128, ⟨.func, 1, 8, .nilf⟩),
  (129, ⟨.func, 1, 8, .nilf⟩),
  (131, ⟨.func, 1, 8, .nilf⟩),
  (132, ⟨.func, 1, 8, .nilf⟩),
  (133, ⟨.sl 9, 1, 24, .sl true []⟩),
  (134, ⟨.struct [(0, 3), (1, 24), (2, 9), (3, 133)], 4, 56, .agg [.int .i64 0, .int .u64 0, .str [], .sl true []]⟩),
  (135, ⟨.struct [(0, 3), (1, 24), (2, 9), (3, 133)], 4, 56, .agg [.int .i64 0, .int .u64 0, .str [], .sl true []]⟩),
  (136, ⟨.func, 1, 8, .nilf⟩),
  (137, ⟨.func, 1, 8, .nilf⟩),
  (138, ⟨.func, 1, 8, .nilf⟩),
  (139, ⟨.ptr, 1, 8, .nilp⟩),
  (140, ⟨.ptr, 1, 8, .nilp⟩),
  (141, ⟨.struct [(0, 3), (1, 28)], 2, 24, .agg [.int .i64 0, .nili]⟩),
  (142, ⟨.struct [(0, 3), (1, 28)], 2, 24, .agg [.int .i64 0, .nili]⟩),
  (143, ⟨.func, 1, 8, .nilf⟩),
  (148, ⟨.func, 1, 8, .nilf⟩),
  (149, ⟨.iface, 1, 16, .nili⟩),
  (151, ⟨.func, 1, 8, .nilf⟩),
  (153, ⟨.func, 1, 8, .nilf⟩),
  (154, ⟨.func, 1, 8, .nilf⟩),
  (155, ⟨.func, 1, 8, .nilf⟩),
  (156, ⟨.func, 1, 8, .nilf⟩),
  (157, ⟨.func, 1, 8, .nilf⟩),
  (158, ⟨.func, 1, 8, .nilf⟩),
  (159, ⟨.func, 1, 8, .nilf⟩),
  (160, ⟨.func, 1, 8, .nilf⟩),
  (161, ⟨.func, 1, 8, .nilf⟩),
  (162, ⟨.func, 1, 8, .nilf⟩),
  (163, ⟨.func, 1, 8, .nilf⟩),
  (164, ⟨.ptr, 1, 8, .nilp⟩),
  (165, ⟨.struct [(0, 9), (1, 3), (2, 28), (3, 3)], 4, 48, .agg [.str [], .int .i64 0, .nili, .int .i64 0]⟩),
  (166, ⟨.struct [(0, 9), (1, 3), (2, 28), (3, 3)], 4, 48, .agg [.str [], .int .i64 0, .nili, .int .i64 0]⟩),
  (167, ⟨.func, 1, 8, .nilf⟩),
  (168, ⟨.ptr, 1, 8, .nilp⟩),
  (170, ⟨.func, 1, 8, .nilf⟩),
  (171, ⟨.func, 1, 8, .nilf⟩),
  (172, ⟨.struct [(0, 66), (1, 9)], 2, 40, .agg [.sl true [], .str []]⟩),
  (173, ⟨.struct [(0, 66), (1, 9)], 2, 40, .agg [.sl true [], .str []]⟩),
  (174, ⟨.func, 1, 8, .nilf⟩),
  (175, ⟨.func, 1, 8, .nilf⟩),
  (176, ⟨.func, 1, 8, .nilf⟩),
  (177, ⟨.struct [(0, 23), (1, 9)], 2, 40, .agg [.sl true [], .str []]⟩),
  (178, ⟨.struct [(0, 23), (1, 9)], 2, 40, .agg [.sl true [], .str []]⟩),
  (179, ⟨.func, 1, 8, .nilf⟩),
  (180, ⟨.func, 1, 8, .nilf⟩),
  (181, ⟨.func, 1, 8, .nilf⟩),
  (182, ⟨.func, 1, 8, .nilf⟩),
  (184, ⟨.func, 1, 8, .nilf⟩),
  (185, ⟨.func, 1, 8, .nilf⟩),
  (186, ⟨.func, 1, 8, .nilf⟩),
  (187, ⟨.func, 1, 8, .nilf⟩),
  (188, ⟨.struct [(0, 17)], 1, 8, .agg [.nilp]⟩),
  (191, ⟨.func, 1, 8, .nilf⟩),
  (192, ⟨.func, 1, 8, .nilf⟩),
  (193, ⟨.func, 1, 8, .nilf⟩),
  (194, ⟨.iface, 1, 16, .nili⟩),
  (196, ⟨.func, 1, 8, .nilf⟩),
  (197, ⟨.iface, 1, 16, .nili⟩),
  (198, ⟨.func, 1, 8, .nilf⟩),
  (199, ⟨.iface, 1, 16, .nili⟩),
  (200, ⟨.sl 28, 1, 24, .sl true []⟩),
  (201, ⟨.func, 1, 8, .nilf⟩),
  (202, ⟨.func, 1, 8, .nilf⟩),
  (203, ⟨.func, 1, 8, .nilf⟩),
  (204, ⟨.func, 1, 8, .nilf⟩),
  (205, ⟨.func, 1, 8, .nilf⟩),
  (206, ⟨.ptr, 1, 8, .nilp⟩),
  (207, ⟨.struct [(0, 3), (1, 28)], 2, 24, .agg [.int .i64 0, .nili]⟩),
  (208, ⟨.struct [(0, 3), (1, 28)], 2, 24, .agg [.int .i64 0, .nili]⟩),
  (210, ⟨.func, 1, 8, .nilf⟩),
  (211, ⟨.func, 1, 8, .nilf⟩),
  (212, ⟨.ptr, 1, 8, .nilp⟩),
  (213, ⟨.func, 1, 8, .nilf⟩),
  (214, ⟨.func, 1, 8, .nilf⟩),
  (216, ⟨.func, 1, 8, .nilf⟩),
  (217, ⟨.func, 1, 8, .nilf⟩),
  (218, ⟨.func, 1, 8, .nilf⟩),
  (219, ⟨.func, 1, 8, .nilf⟩),
  (220, ⟨.func, 1, 8, .nilf⟩),
  (222, ⟨.func, 1, 8, .nilf⟩),
  (223, ⟨.func, 1, 8, .nilf⟩),
  (224, ⟨.func, 1, 8, .nilf⟩),
  (225, ⟨.func, 1, 8, .nilf⟩),
  (226, ⟨.func, 1, 8, .nilf⟩),
  (227, ⟨.func, 1, 8, .nilf⟩),
  (228, ⟨.func, 1, 8, .nilf⟩),
  (229, ⟨.func, 1, 8, .nilf⟩),
  (230, ⟨.func, 1, 8, .nilf⟩),
  (234, ⟨.func, 1, 8, .nilf⟩),
  (235, ⟨.func, 1, 8, .nilf⟩),
  (236, ⟨.func, 1, 8, .nilf⟩),
  (237, ⟨.func, 1, 8, .nilf⟩),
  (238, ⟨.func, 1, 8, .nilf⟩),
  (239, ⟨.func, 1, 8, .nilf⟩),
  (240, ⟨.struct [(0, 17), (1, 17), (2, 17), (3, 9)], 4, 40, .agg [.nilp, .nilp, .nilp, .str []]⟩),
  (245, ⟨.func, 1, 8, .nilf⟩),
  (246, ⟨.func, 1, 8, .nilf⟩),
  (248, ⟨.func, 1, 8, .nilf⟩),
  (251, ⟨.struct [(0, 12), (1, 12), (2, 48), (3, 247), (4, 5), (5, 5), (6, 152), (7, 248), (8, 168), (9, 249), (10, 250)], 11, 48, .agg [.int .u64 0, .int .u64 0, .int .u32 0, .int .u8 0, .int .u8 0, .int .u8 0, .int .u8 0, .nilf, .nilp, .int .i32 0, .int .i32 0]⟩),
  (253, ⟨.func, 1, 8, .nilf⟩),
  (254, ⟨.func, 1, 8, .nilf⟩),
  (255, ⟨.struct [(0, 9), (1, 152)], 2, 24, .agg [.str [], .int .u8 0]⟩),
  (258, ⟨.func, 1, 8, .nilf⟩),
  (259, ⟨.int .u16, 1, 2, .int .u16 0⟩),
  (260, ⟨.struct [(0, 249), (1, 259), (2, 259), (3, 48), (4, 48)], 5, 16, .agg [.int .i32 0, .int .u16 0, .int .u16 0, .int .u32 0, .int .u32 0]⟩),
  (262, ⟨.sl 265, 1, 24, .sl true []⟩),
  (264, ⟨.struct [(0, 249), (1, 250), (2, 263), (3, 263)], 4, 16, .agg [.int .i32 0, .int .i32 0, .int .i32 0, .int .i32 0]⟩),
  (266, ⟨.ptr, 1, 8, .nilp⟩)]
def AllRows (P : Program) : List (Nat × Ti) → Prop
  | [] => True
  | (k, i) :: r => RowOk P k i ∧ AllRows P r
theorem look_ok {P : Program} : ∀ {l : List (Nat × Ti)}, AllRows P l → ∀ t i, look l t = some i → RowOk P t i
  | [], _, t, i, h => by simp [look] at h
  | (k, j) :: r, ha, t, i, h => by
    unfold look at h
    cases hb : Nat.beq k t with
    | true => rw [hb] at h; simp at h; subst h; rw [← Nat.eq_of_beq_eq_true hb]; exact ha.1
    | false => rw [hb] at h; exact look_ok ha.2 t i h
theorem row1 : RowOk Tryz.prog 1 ⟨.func, 1, 8, .nilf⟩ := ⟨by kernel_rfl, by kernel_rfl, by kernel_rfl, by kernel_rfl⟩
theorem row2 : RowOk Tryz.prog 2 ⟨.int .i64, 1, 8, .int .i64 0⟩ := ⟨by kernel_rfl, by kernel_rfl, by kernel_rfl, by kernel_rfl⟩
theorem row3 : RowOk Tryz.prog 3 ⟨.int .i64, 1, 8, .int .i64 0⟩ := ⟨by kernel_rfl, by kernel_rfl, by kernel_rfl, by kernel_rfl⟩
theorem row4 : RowOk Tryz.prog 4 ⟨.bool, 1, 1, .bool false⟩ := ⟨by kernel_rfl, by kernel_rfl, by kernel_rfl, by kernel_rfl⟩
theorem row5 : RowOk Tryz.prog 5 ⟨.int .u8, 1, 1, .int .u8 0⟩ := ⟨by kernel_rfl, by kernel_rfl, by kernel_rfl, by kernel_rfl⟩
theorem row7 : RowOk Tryz.prog 7 ⟨.struct [(0, 2), (1, 3), (2, 4), (3, 6)], 4, 24, .agg [.int .i64 0, .int .i64 0, .bool false, .int .u8 0]⟩ := ⟨by kernel_rfl, by kernel_rfl, by kernel_rfl, by kernel_rfl⟩
theorem row9 : RowOk Tryz.prog 9 ⟨.str, 1, 16, .str []⟩ := ⟨by kernel_rfl, by kernel_rfl, by kernel_rfl, by kernel_rfl⟩
theorem row12 : RowOk Tryz.prog 12 ⟨.int .u64, 1, 8, .int .u64 0⟩ := ⟨by kernel_rfl, by kernel_rfl, by kernel_rfl, by kernel_rfl⟩
theorem row13 : RowOk Tryz.prog 13 ⟨.struct [(0, 9), (1, 12)], 2, 24, .agg [.str [], .int .u64 0]⟩ := ⟨by kernel_rfl, by kernel_rfl, by kernel_rfl, by kernel_rfl⟩
theorem row18 : RowOk Tryz.prog 18 ⟨.struct [(0, 17)], 1, 8, .agg [.nilp]⟩ := ⟨by kernel_rfl, by kernel_rfl, by kernel_rfl, by kernel_rfl⟩
theorem row20 : RowOk Tryz.prog 20 ⟨.iface, 1, 16, .nili⟩ := ⟨by kernel_rfl, by kernel_rfl, by kernel_rfl, by kernel_rfl⟩
theorem row21 : RowOk Tryz.prog 21 ⟨.int .i32, 1, 4, .int .i32 0⟩ := ⟨by kernel_rfl, by kernel_rfl, by kernel_rfl, by kernel_rfl⟩
theorem row22 : RowOk Tryz.prog 22 ⟨.func, 1, 8, .nilf⟩ := ⟨by kernel_rfl, by kernel_rfl, by kernel_rfl, by kernel_rfl⟩
theorem row23 : RowOk Tryz.prog 23 ⟨.sl 70, 1, 24, .sl true []⟩ := ⟨by kernel_rfl, by kernel_rfl, by kernel_rfl, by kernel_rfl⟩
theorem row24 : RowOk Tryz.prog 24 ⟨.int .u64, 1, 8, .int .u64 0⟩ := ⟨by kernel_rfl, by kernel_rfl, by kernel_rfl, by kernel_rfl⟩
theorem row25 : RowOk Tryz.prog 25 ⟨.struct [(0, 23), (1, 24), (2, 3), (3, 24), (4, 9), (5, 9), (6, 9)], 7, 96, .agg [.sl true [], .int .u64 0, .int .i64 0, .int .u64 0, .str [], .str [], .str []]⟩ := ⟨by kernel_rfl, by kernel_rfl, by kernel_rfl, by kernel_rfl⟩
theorem row26 : RowOk Tryz.prog 26 ⟨.struct [(0, 23), (1, 24), (2, 3), (3, 24), (4, 9), (5, 9), (6, 9)], 7, 96, .agg [.sl true [], .int .u64 0, .int .i64 0, .int .u64 0, .str [], .str [], .str []]⟩ := ⟨by kernel_rfl, by kernel_rfl, by kernel_rfl, by kernel_rfl⟩
theorem row27 : RowOk Tryz.prog 27 ⟨.iface, 1, 16, .nili⟩ := ⟨by kernel_rfl, by kernel_rfl, by kernel_rfl, by kernel_rfl⟩
theorem row28 : RowOk Tryz.prog 28 ⟨.iface, 1, 16, .nili⟩ := ⟨by kernel_rfl, by kernel_rfl, by kernel_rfl, by kernel_rfl⟩
theorem row30 : RowOk Tryz.prog 30 ⟨.func, 1, 8, .nilf⟩ := ⟨by kernel_rfl, by kernel_rfl, by kernel_rfl, by kernel_rfl⟩
theorem row32 : RowOk Tryz.prog 32 ⟨.func, 1, 8, .nilf⟩ := ⟨by kernel_rfl, by kernel_rfl, by kernel_rfl, by kernel_rfl⟩
theorem row33 : RowOk Tryz.prog 33 ⟨.func, 1, 8, .nilf⟩ := ⟨by kernel_rfl, by kernel_rfl, by kernel_rfl, by kernel_rfl⟩
theorem row34 : RowOk Tryz.prog 34 ⟨.func, 1, 8, .nilf⟩ := ⟨by kernel_rfl, by kernel_rfl, by kernel_rfl, by kernel_rfl⟩
theorem row35 : RowOk Tryz.prog 35 ⟨.func, 1, 8, .nilf⟩ := ⟨by kernel_rfl, by kernel_rfl, by kernel_rfl, by kernel_rfl⟩
theorem row36 : RowOk Tryz.prog 36 ⟨.func, 1, 8, .nilf⟩ := ⟨by kernel_rfl, by kernel_rfl, by kernel_rfl, by kernel_rfl⟩
theorem row37 : RowOk Tryz.prog 37 ⟨.func, 1, 8, .nilf⟩ := ⟨by kernel_rfl, by kernel_rfl, by kernel_rfl, by kernel_rfl⟩
theorem row38 : RowOk Tryz.prog 38 ⟨.int .i64, 1, 8, .int .i64 0⟩ := ⟨by kernel_rfl, by kernel_rfl, by kernel_rfl, by kernel_rfl⟩
theorem row39 : RowOk Tryz.prog 39 ⟨.func, 1, 8, .nilf⟩ := ⟨by kernel_rfl, by kernel_rfl, by kernel_rfl, by kernel_rfl⟩
theorem row40 : RowOk Tryz.prog 40 ⟨.func, 1, 8, .nilf⟩ := ⟨by kernel_rfl, by kernel_rfl, by kernel_rfl, by kernel_rfl⟩
theorem row42 : RowOk Tryz.prog 42 ⟨.func, 1, 8, .nilf⟩ := ⟨by kernel_rfl, by kernel_rfl, by kernel_rfl, by kernel_rfl⟩
theorem row43 : RowOk Tryz.prog 43 ⟨.func, 1, 8, .nilf⟩ := ⟨by kernel_rfl, by kernel_rfl, by kernel_rfl, by kernel_rfl⟩
theorem row44 : RowOk Tryz.prog 44 ⟨.func, 1, 8, .nilf⟩ := ⟨by kernel_rfl, by kernel_rfl, by kernel_rfl, by kernel_rfl⟩
theorem row45 : RowOk Tryz.prog 45 ⟨.func, 1, 8, .nilf⟩ := ⟨by kernel_rfl, by kernel_rfl, by kernel_rfl, by kernel_rfl⟩
theorem row46 : RowOk Tryz.prog 46 ⟨.func, 1, 8, .nilf⟩ := ⟨by kernel_rfl, by kernel_rfl, by kernel_rfl, by kernel_rfl⟩
theorem row47 : RowOk Tryz.prog 47 ⟨.sl 26, 1, 24, .sl true []⟩ := ⟨by kernel_rfl, by kernel_rfl, by kernel_rfl, by kernel_rfl⟩
theorem row48 : RowOk Tryz.prog 48 ⟨.int .u32, 1, 4, .int .u32 0⟩ := ⟨by kernel_rfl, by kernel_rfl, by kernel_rfl, by kernel_rfl⟩
theorem row49 : RowOk Tryz.prog 49 ⟨.struct [(0, 23), (1, 24), (2, 24), (3, 3), (4, 24), (5, 47), (6, 48), (7, 9)], 8, 104, .agg [.sl true [], .int .u64 0, .int .u64 0, .int .i64 0, .int .u64 0, .sl true [], .int .u32 0, .str []]⟩ := ⟨by kernel_rfl, by kernel_rfl, by kernel_rfl, by kernel_rfl⟩
theorem row50 : RowOk Tryz.prog 50 ⟨.struct [(0, 23), (1, 24), (2, 24), (3, 3), (4, 24), (5, 47), (6, 48), (7, 9)], 8, 104, .agg [.sl true [], .int .u64 0, .int .u64 0, .int .i64 0, .int .u64 0, .sl true [], .int .u32 0, .str []]⟩ := ⟨by kernel_rfl, by kernel_rfl, by kernel_rfl, by kernel_rfl⟩
theorem row52 : RowOk Tryz.prog 52 ⟨.func, 1, 8, .nilf⟩ := ⟨by kernel_rfl, by kernel_rfl, by kernel_rfl, by kernel_rfl⟩
theorem row53 : RowOk Tryz.prog 53 ⟨.func, 1, 8, .nilf⟩ := ⟨by kernel_rfl, by kernel_rfl, by kernel_rfl, by kernel_rfl⟩
theorem row54 : RowOk Tryz.prog 54 ⟨.func, 1, 8, .nilf⟩ := ⟨by kernel_rfl, by kernel_rfl, by kernel_rfl, by kernel_rfl⟩
theorem row55 : RowOk Tryz.prog 55 ⟨.func, 1, 8, .nilf⟩ := ⟨by kernel_rfl, by kernel_rfl, by kernel_rfl, by kernel_rfl⟩
theorem row56 : RowOk Tryz.prog 56 ⟨.func, 1, 8, .nilf⟩ := ⟨by kernel_rfl, by kernel_rfl, by kernel_rfl, by kernel_rfl⟩
theorem row57 : RowOk Tryz.prog 57 ⟨.func, 1, 8, .nilf⟩ := ⟨by kernel_rfl, by kernel_rfl, by kernel_rfl, by kernel_rfl⟩
theorem row59 : RowOk Tryz.prog 59 ⟨.func, 1, 8, .nilf⟩ := ⟨by kernel_rfl, by kernel_rfl, by kernel_rfl, by kernel_rfl⟩
theorem row60 : RowOk Tryz.prog 60 ⟨.ptr, 1, 8, .nilp⟩ := ⟨by kernel_rfl, by kernel_rfl, by kernel_rfl, by kernel_rfl⟩
theorem row61 : RowOk Tryz.prog 61 ⟨.func, 1, 8, .nilf⟩ := ⟨by kernel_rfl, by kernel_rfl, by kernel_rfl, by kernel_rfl⟩
theorem row62 : RowOk Tryz.prog 62 ⟨.func, 1, 8, .nilf⟩ := ⟨by kernel_rfl, by kernel_rfl, by kernel_rfl, by kernel_rfl⟩
theorem row63 : RowOk Tryz.prog 63 ⟨.func, 1, 8, .nilf⟩ := ⟨by kernel_rfl, by kernel_rfl, by kernel_rfl, by kernel_rfl⟩
theorem row64 : RowOk Tryz.prog 64 ⟨.func, 1, 8, .nilf⟩ := ⟨by kernel_rfl, by kernel_rfl, by kernel_rfl, by kernel_rfl⟩
theorem row65 : RowOk Tryz.prog 65 ⟨.func, 1, 8, .nilf⟩ := ⟨by kernel_rfl, by kernel_rfl, by kernel_rfl, by kernel_rfl⟩
theorem row66 : RowOk Tryz.prog 66 ⟨.sl 68, 1, 24, .sl true []⟩ := ⟨by kernel_rfl, by kernel_rfl, by kernel_rfl, by kernel_rfl⟩
theorem row67 : RowOk Tryz.prog 67 ⟨.struct [(0, 3), (1, 9), (2, 4), (3, 24), (4, 66), (5, 23), (6, 9), (7, 9)], 8, 120, .agg [.int .i64 0, .str [], .bool false, .int .u64 0, .sl true [], .sl true [], .str [], .str []]⟩ := ⟨by kernel_rfl, by kernel_rfl, by kernel_rfl, by kernel_rfl⟩
theorem row68 : RowOk Tryz.prog 68 ⟨.struct [(0, 3), (1, 9), (2, 4), (3, 24), (4, 66), (5, 23), (6, 9), (7, 9)], 8, 120, .agg [.int .i64 0, .str [], .bool false, .int .u64 0, .sl true [], .sl true [], .str [], .str []]⟩ := ⟨by kernel_rfl, by kernel_rfl, by kernel_rfl, by kernel_rfl⟩
theorem row69 : RowOk Tryz.prog 69 ⟨.struct [(0, 9), (1, 4), (2, 68), (10, 9)], 11, 160, .agg [.str [], .bool false, .int .i64 0, .str [], .bool false, .int .u64 0, .sl true [], .sl true [], .str [], .str [], .str []]⟩ := ⟨by kernel_rfl, by kernel_rfl, by kernel_rfl, by kernel_rfl⟩
theorem row70 : RowOk Tryz.prog 70 ⟨.struct [(0, 9), (1, 4), (2, 68), (10, 9)], 11, 160, .agg [.str [], .bool false, .int .i64 0, .str [], .bool false, .int .u64 0, .sl true [], .sl true [], .str [], .str [], .str []]⟩ := ⟨by kernel_rfl, by kernel_rfl, by kernel_rfl, by kernel_rfl⟩
theorem row71 : RowOk Tryz.prog 71 ⟨.func, 1, 8, .nilf⟩ := ⟨by kernel_rfl, by kernel_rfl, by kernel_rfl, by kernel_rfl⟩
theorem row72 : RowOk Tryz.prog 72 ⟨.sl 125, 1, 24, .sl true []⟩ := ⟨by kernel_rfl, by kernel_rfl, by kernel_rfl, by kernel_rfl⟩
theorem row73 : RowOk Tryz.prog 73 ⟨.struct [(0, 28), (1, 9), (2, 3), (3, 3), (4, 72)], 5, 72, .agg [.nili, .str [], .int .i64 0, .int .i64 0, .sl true []]⟩ := ⟨by kernel_rfl, by kernel_rfl, by kernel_rfl, by kernel_rfl⟩
theorem row74 : RowOk Tryz.prog 74 ⟨.struct [(0, 28), (1, 9), (2, 3), (3, 3), (4, 72)], 5, 72, .agg [.nili, .str [], .int .i64 0, .int .i64 0, .sl true []]⟩ := ⟨by kernel_rfl, by kernel_rfl, by kernel_rfl, by kernel_rfl⟩
theorem row76 : RowOk Tryz.prog 76 ⟨.func, 1, 8, .nilf⟩ := ⟨by kernel_rfl, by kernel_rfl, by kernel_rfl, by kernel_rfl⟩
theorem row77 : RowOk Tryz.prog 77 ⟨.sl 81, 1, 24, .sl true []⟩ := ⟨by kernel_rfl, by kernel_rfl, by kernel_rfl, by kernel_rfl⟩
theorem row79 : RowOk Tryz.prog 79 ⟨.func, 1, 8, .nilf⟩ := ⟨by kernel_rfl, by kernel_rfl, by kernel_rfl, by kernel_rfl⟩
theorem row80 : RowOk Tryz.prog 80 ⟨.struct [(0, 3), (1, 3), (2, 24), (3, 9), (4, 9)], 5, 56, .agg [.int .i64 0, .int .i64 0, .int .u64 0, .str [], .str []]⟩ := ⟨by kernel_rfl, by kernel_rfl, by kernel_rfl, by kernel_rfl⟩
theorem row81 : RowOk Tryz.prog 81 ⟨.struct [(0, 3), (1, 3), (2, 24), (3, 9), (4, 9)], 5, 56, .agg [.int .i64 0, .int .i64 0, .int .u64 0, .str [], .str []]⟩ := ⟨by kernel_rfl, by kernel_rfl, by kernel_rfl, by kernel_rfl⟩
theorem row82 : RowOk Tryz.prog 82 ⟨.func, 1, 8, .nilf⟩ := ⟨by kernel_rfl, by kernel_rfl, by kernel_rfl, by kernel_rfl⟩
theorem row83 : RowOk Tryz.prog 83 ⟨.sl 3, 1, 24, .sl true []⟩ := ⟨by kernel_rfl, by kernel_rfl, by kernel_rfl, by kernel_rfl⟩
theorem row84 : RowOk Tryz.prog 84 ⟨.func, 1, 8, .nilf⟩ := ⟨by kernel_rfl, by kernel_rfl, by kernel_rfl, by kernel_rfl⟩
theorem row86 : RowOk Tryz.prog 86 ⟨.func, 1, 8, .nilf⟩ := ⟨by kernel_rfl, by kernel_rfl, by kernel_rfl, by kernel_rfl⟩
theorem row88 : RowOk Tryz.prog 88 ⟨.func, 1, 8, .nilf⟩ := ⟨by kernel_rfl, by kernel_rfl, by kernel_rfl, by kernel_rfl⟩
theorem row89 : RowOk Tryz.prog 89 ⟨.func, 1, 8, .nilf⟩ := ⟨by kernel_rfl, by kernel_rfl, by kernel_rfl, by kernel_rfl⟩
theorem row90 : RowOk Tryz.prog 90 ⟨.func, 1, 8, .nilf⟩ := ⟨by kernel_rfl, by kernel_rfl, by kernel_rfl, by kernel_rfl⟩
theorem row91 : RowOk Tryz.prog 91 ⟨.int .u64, 1, 8, .int .u64 0⟩ := ⟨by kernel_rfl, by kernel_rfl, by kernel_rfl, by kernel_rfl⟩
theorem row92 : RowOk Tryz.prog 92 ⟨.func, 1, 8, .nilf⟩ := ⟨by kernel_rfl, by kernel_rfl, by kernel_rfl, by kernel_rfl⟩
theorem row93 : RowOk Tryz.prog 93 ⟨.ptr, 1, 8, .nilp⟩ := ⟨by kernel_rfl, by kernel_rfl, by kernel_rfl, by kernel_rfl⟩
theorem row94 : RowOk Tryz.prog 94 ⟨.func, 1, 8, .nilf⟩ := ⟨by kernel_rfl, by kernel_rfl, by kernel_rfl, by kernel_rfl⟩
theorem row95 : RowOk Tryz.prog 95 ⟨.ptr, 1, 8, .nilp⟩ := ⟨by kernel_rfl, by kernel_rfl, by kernel_rfl, by kernel_rfl⟩
theorem row96 : RowOk Tryz.prog 96 ⟨.sl 5, 1, 24, .sl true []⟩ := ⟨by kernel_rfl, by kernel_rfl, by kernel_rfl, by kernel_rfl⟩
theorem row97 : RowOk Tryz.prog 97 ⟨.struct [(0, 95), (1, 96)], 2, 32, .agg [.nilp, .sl true []]⟩ := ⟨by kernel_rfl, by kernel_rfl, by kernel_rfl, by kernel_rfl⟩
theorem row98 : RowOk Tryz.prog 98 ⟨.struct [(0, 95), (1, 96)], 2, 32, .agg [.nilp, .sl true []]⟩ := ⟨by kernel_rfl, by kernel_rfl, by kernel_rfl, by kernel_rfl⟩
theorem row99 : RowOk Tryz.prog 99 ⟨.struct [(0, 98)], 2, 32, .agg [.nilp, .sl true []]⟩ := ⟨by kernel_rfl, by kernel_rfl, by kernel_rfl, by kernel_rfl⟩
theorem row100 : RowOk Tryz.prog 100 ⟨.struct [(0, 98)], 2, 32, .agg [.nilp, .sl true []]⟩ := ⟨by kernel_rfl, by kernel_rfl, by kernel_rfl, by kernel_rfl⟩
theorem row101 : RowOk Tryz.prog 101 ⟨.func, 1, 8, .nilf⟩ := ⟨by kernel_rfl, by kernel_rfl, by kernel_rfl, by kernel_rfl⟩
theorem row102 : RowOk Tryz.prog 102 ⟨.func, 1, 8, .nilf⟩ := ⟨by kernel_rfl, by kernel_rfl, by kernel_rfl, by kernel_rfl⟩
theorem row103 : RowOk Tryz.prog 103 ⟨.func, 1, 8, .nilf⟩ := ⟨by kernel_rfl, by kernel_rfl, by kernel_rfl, by kernel_rfl⟩
theorem row104 : RowOk Tryz.prog 104 ⟨.func, 1, 8, .nilf⟩ := ⟨by kernel_rfl, by kernel_rfl, by kernel_rfl, by kernel_rfl⟩
theorem row105 : RowOk Tryz.prog 105 ⟨.ptr, 1, 8, .nilp⟩ := ⟨by kernel_rfl, by kernel_rfl, by kernel_rfl, by kernel_rfl⟩
theorem row106 : RowOk Tryz.prog 106 ⟨.func, 1, 8, .nilf⟩ := ⟨by kernel_rfl, by kernel_rfl, by kernel_rfl, by kernel_rfl⟩
theorem row107 : RowOk Tryz.prog 107 ⟨.func, 1, 8, .nilf⟩ := ⟨by kernel_rfl, by kernel_rfl, by kernel_rfl, by kernel_rfl⟩
theorem row108 : RowOk Tryz.prog 108 ⟨.func, 1, 8, .nilf⟩ := ⟨by kernel_rfl, by kernel_rfl, by kernel_rfl, by kernel_rfl⟩
theorem row109 : RowOk Tryz.prog 109 ⟨.func, 1, 8, .nilf⟩ := ⟨by kernel_rfl, by kernel_rfl, by kernel_rfl, by kernel_rfl⟩
theorem row110 : RowOk Tryz.prog 110 ⟨.func, 1, 8, .nilf⟩ := ⟨by kernel_rfl, by kernel_rfl, by kernel_rfl, by kernel_rfl⟩
theorem row111 : RowOk Tryz.prog 111 ⟨.func, 1, 8, .nilf⟩ := ⟨by kernel_rfl, by kernel_rfl, by kernel_rfl, by kernel_rfl⟩
theorem row112 : RowOk Tryz.prog 112 ⟨.func, 1, 8, .nilf⟩ := ⟨by kernel_rfl, by kernel_rfl, by kernel_rfl, by kernel_rfl⟩
theorem row113 : RowOk Tryz.prog 113 ⟨.func, 1, 8, .nilf⟩ := ⟨by kernel_rfl, by kernel_rfl, by kernel_rfl, by kernel_rfl⟩
theorem row114 : RowOk Tryz.prog 114 ⟨.func, 1, 8, .nilf⟩ := ⟨by kernel_rfl, by kernel_rfl, by kernel_rfl, by kernel_rfl⟩
theorem row115 : RowOk Tryz.prog 115 ⟨.func, 1, 8, .nilf⟩ := ⟨by kernel_rfl, by kernel_rfl, by kernel_rfl, by kernel_rfl⟩
theorem row116 : RowOk Tryz.prog 116 ⟨.func, 1, 8, .nilf⟩ := ⟨by kernel_rfl, by kernel_rfl, by kernel_rfl, by kernel_rfl⟩
theorem row117 : RowOk Tryz.prog 117 ⟨.func, 1, 8, .nilf⟩ := ⟨by kernel_rfl, by kernel_rfl, by kernel_rfl, by kernel_rfl⟩
theorem row118 : RowOk Tryz.prog 118 ⟨.func, 1, 8, .nilf⟩ := ⟨by kernel_rfl, by kernel_rfl, by kernel_rfl, by kernel_rfl⟩
theorem row119 : RowOk Tryz.prog 119 ⟨.func, 1, 8, .nilf⟩ := ⟨by kernel_rfl, by kernel_rfl, by kernel_rfl, by kernel_rfl⟩
theorem row120 : RowOk Tryz.prog 120 ⟨.func, 1, 8, .nilf⟩ := ⟨by kernel_rfl, by kernel_rfl, by kernel_rfl, by kernel_rfl⟩
theorem row121 : RowOk Tryz.prog 121 ⟨.func, 1, 8, .nilf⟩ := ⟨by kernel_rfl, by kernel_rfl, by kernel_rfl, by kernel_rfl⟩
theorem row122 : RowOk Tryz.prog 122 ⟨.func, 1, 8, .nilf⟩ := ⟨by kernel_rfl, by kernel_rfl, by kernel_rfl, by kernel_rfl⟩
theorem row124 : RowOk Tryz.prog 124 ⟨.func, 1, 8, .nilf⟩ := ⟨by kernel_rfl, by kernel_rfl, by kernel_rfl, by kernel_rfl⟩
theorem row125 : RowOk Tryz.prog 125 ⟨.struct [(0, 3), (1, 3), (2, 24), (3, 9), (4, 9)], 5, 56, .agg [.int .i64 0, .int .i64 0, .int .u64 0, .str [], .str []]⟩ := ⟨by kernel_rfl, by kernel_rfl, by kernel_rfl, by kernel_rfl⟩
theorem row127 : RowOk Tryz.prog 127 ⟨.func, 1, 8, .nilf⟩ := ⟨by kernel_rfl, by kernel_rfl, by kernel_rfl, by kernel_rfl⟩
theorem row128 : RowOk Tryz.prog 128 ⟨.func, 1, 8, .nilf⟩ := ⟨by kernel_rfl, by kernel_rfl, by kernel_rfl, by kernel_rfl⟩
theorem row129 : RowOk Tryz.prog 129 ⟨.func, 1, 8, .nilf⟩ := ⟨by kernel_rfl, by kernel_rfl, by kernel_rfl, by kernel_rfl⟩
theorem row131 : RowOk Tryz.prog 131 ⟨.func, 1, 8, .nilf⟩ := ⟨by kernel_rfl, by kernel_rfl, by kernel_rfl, by kernel_rfl⟩
theorem row132 : RowOk Tryz.prog 132 ⟨.func, 1, 8, .nilf⟩ := ⟨by kernel_rfl, by kernel_rfl, by kernel_rfl, by kernel_rfl⟩
theorem row133 : RowOk Tryz.prog 133 ⟨.sl 9, 1, 24, .sl true []⟩ := ⟨by kernel_rfl, by kernel_rfl, by kernel_rfl, by kernel_rfl⟩
theorem row134 : RowOk Tryz.prog 134 ⟨.struct [(0, 3), (1, 24), (2, 9), (3, 133)], 4, 56, .agg [.int .i64 0, .int .u64 0, .str [], .sl true []]⟩ := ⟨by kernel_rfl, by kernel_rfl, by kernel_rfl, by kernel_rfl⟩
theorem row135 : RowOk Tryz.prog 135 ⟨.struct [(0, 3), (1, 24), (2, 9), (3, 133)], 4, 56, .agg [.int .i64 0, .int .u64 0, .str [], .sl true []]⟩ := ⟨by kernel_rfl, by kernel_rfl, by kernel_rfl, by kernel_rfl⟩
theorem row136 : RowOk Tryz.prog 136 ⟨.func, 1, 8, .nilf⟩ := ⟨by kernel_rfl, by kernel_rfl, by kernel_rfl, by kernel_rfl⟩
theorem row137 : RowOk Tryz.prog 137 ⟨.func, 1, 8, .nilf⟩ := ⟨by kernel_rfl, by kernel_rfl, by kernel_rfl, by kernel_rfl⟩
theorem row138 : RowOk Tryz.prog 138 ⟨.func, 1, 8, .nilf⟩ := ⟨by kernel_rfl, by kernel_rfl, by kernel_rfl, by kernel_rfl⟩
theorem row139 : RowOk Tryz.prog 139 ⟨.ptr, 1, 8, .nilp⟩ := ⟨by kernel_rfl, by kernel_rfl, by kernel_rfl, by kernel_rfl⟩
theorem row140 : RowOk Tryz.prog 140 ⟨.ptr, 1, 8, .nilp⟩ := ⟨by kernel_rfl, by kernel_rfl, by kernel_rfl, by kernel_rfl⟩
theorem row141 : RowOk Tryz.prog 141 ⟨.struct [(0, 3), (1, 28)], 2, 24, .agg [.int .i64 0, .nili]⟩ := ⟨by kernel_rfl, by kernel_rfl, by kernel_rfl, by kernel_rfl⟩
theorem row142 : RowOk Tryz.prog 142 ⟨.struct [(0, 3), (1, 28)], 2, 24, .agg [.int .i64 0, .nili]⟩ := ⟨by kernel_rfl, by kernel_rfl, by kernel_rfl, by kernel_rfl⟩
theorem row143 : RowOk Tryz.prog 143 ⟨.func, 1, 8, .nilf⟩ := ⟨by kernel_rfl, by kernel_rfl, by kernel_rfl, by kernel_rfl⟩
theorem row148 : RowOk Tryz.prog 148 ⟨.func, 1, 8, .nilf⟩ := ⟨by kernel_rfl, by kernel_rfl, by kernel_rfl, by kernel_rfl⟩
theorem row149 : RowOk Tryz.prog 149 ⟨.iface, 1, 16, .nili⟩ := ⟨by kernel_rfl, by kernel_rfl, by kernel_rfl, by kernel_rfl⟩
theorem row151 : RowOk Tryz.prog 151 ⟨.func, 1, 8, .nilf⟩ := ⟨by kernel_rfl, by kernel_rfl, by kernel_rfl, by kernel_rfl⟩
theorem row153 : RowOk Tryz.prog 153 ⟨.func, 1, 8, .nilf⟩ := ⟨by kernel_rfl, by kernel_rfl, by kernel_rfl, by kernel_rfl⟩
theorem row154 : RowOk Tryz.prog 154 ⟨.func, 1, 8, .nilf⟩ := ⟨by kernel_rfl, by kernel_rfl, by kernel_rfl, by kernel_rfl⟩
theorem row155 : RowOk Tryz.prog 155 ⟨.func, 1, 8, .nilf⟩ := ⟨by kernel_rfl, by kernel_rfl, by kernel_rfl, by kernel_rfl⟩
theorem row156 : RowOk Tryz.prog 156 ⟨.func, 1, 8, .nilf⟩ := ⟨by kernel_rfl, by kernel_rfl, by kernel_rfl, by kernel_rfl⟩
theorem row157 : RowOk Tryz.prog 157 ⟨.func, 1, 8, .nilf⟩ := ⟨by kernel_rfl, by kernel_rfl, by kernel_rfl, by kernel_rfl⟩
theorem row158 : RowOk Tryz.prog 158 ⟨.func, 1, 8, .nilf⟩ := ⟨by kernel_rfl, by kernel_rfl, by kernel_rfl, by kernel_rfl⟩
theorem row159 : RowOk Tryz.prog 159 ⟨.func, 1, 8, .nilf⟩ := ⟨by kernel_rfl, by kernel_rfl, by kernel_rfl, by kernel_rfl⟩
theorem row160 : RowOk Tryz.prog 160 ⟨.func, 1, 8, .nilf⟩ := ⟨by kernel_rfl, by kernel_rfl, by kernel_rfl, by kernel_rfl⟩
theorem row161 : RowOk Tryz.prog 161 ⟨.func, 1, 8, .nilf⟩ := ⟨by kernel_rfl, by kernel_rfl, by kernel_rfl, by kernel_rfl⟩
theorem row162 : RowOk Tryz.prog 162 ⟨.func, 1, 8, .nilf⟩ := ⟨by kernel_rfl, by kernel_rfl, by kernel_rfl, by kernel_rfl⟩
theorem row163 : RowOk Tryz.prog 163 ⟨.func, 1, 8, .nilf⟩ := ⟨by kernel_rfl, by kernel_rfl, by kernel_rfl, by kernel_rfl⟩
theorem row164 : RowOk Tryz.prog 164 ⟨.ptr, 1, 8, .nilp⟩ := ⟨by kernel_rfl, by kernel_rfl, by kernel_rfl, by kernel_rfl⟩
theorem row165 : RowOk Tryz.prog 165 ⟨.struct [(0, 9), (1, 3), (2, 28), (3, 3)], 4, 48, .agg [.str [], .int .i64 0, .nili, .int .i64 0]⟩ := ⟨by kernel_rfl, by kernel_rfl, by kernel_rfl, by kernel_rfl⟩
theorem row166 : RowOk Tryz.prog 166 ⟨.struct [(0, 9), (1, 3), (2, 28), (3, 3)], 4, 48, .agg [.str [], .int .i64 0, .nili, .int .i64 0]⟩ := ⟨by kernel_rfl, by kernel_rfl, by kernel_rfl, by kernel_rfl⟩
theorem row167 : RowOk Tryz.prog 167 ⟨.func, 1, 8, .nilf⟩ := ⟨by kernel_rfl, by kernel_rfl, by kernel_rfl, by kernel_rfl⟩
theorem row168 : RowOk Tryz.prog 168 ⟨.ptr, 1, 8, .nilp⟩ := ⟨by kernel_rfl, by kernel_rfl, by kernel_rfl, by kernel_rfl⟩
theorem row170 : RowOk Tryz.prog 170 ⟨.func, 1, 8, .nilf⟩ := ⟨by kernel_rfl, by kernel_rfl, by kernel_rfl, by kernel_rfl⟩
theorem row171 : RowOk Tryz.prog 171 ⟨.func, 1, 8, .nilf⟩ := ⟨by kernel_rfl, by kernel_rfl, by kernel_rfl, by kernel_rfl⟩
theorem row172 : RowOk Tryz.prog 172 ⟨.struct [(0, 66), (1, 9)], 2, 40, .agg [.sl true [], .str []]⟩ := ⟨by kernel_rfl, by kernel_rfl, by kernel_rfl, by kernel_rfl⟩
theorem row173 : RowOk Tryz.prog 173 ⟨.struct [(0, 66), (1, 9)], 2, 40, .agg [.sl true [], .str []]⟩ := ⟨by kernel_rfl, by kernel_rfl, by kernel_rfl, by kernel_rfl⟩
theorem row174 : RowOk Tryz.prog 174 ⟨.func, 1, 8, .nilf⟩ := ⟨by kernel_rfl, by kernel_rfl, by kernel_rfl, by kernel_rfl⟩
theorem row175 : RowOk Tryz.prog 175 ⟨.func, 1, 8, .nilf⟩ := ⟨by kernel_rfl, by kernel_rfl, by kernel_rfl, by kernel_rfl⟩
theorem row176 : RowOk Tryz.prog 176 ⟨.func, 1, 8, .nilf⟩ := ⟨by kernel_rfl, by kernel_rfl, by kernel_rfl, by kernel_rfl⟩
theorem row177 : RowOk Tryz.prog 177 ⟨.struct [(0, 23), (1, 9)], 2, 40, .agg [.sl true [], .str []]⟩ := ⟨by kernel_rfl, by kernel_rfl, by kernel_rfl, by kernel_rfl⟩
theorem row178 : RowOk Tryz.prog 178 ⟨.struct [(0, 23), (1, 9)], 2, 40, .agg [.sl true [], .str []]⟩ := ⟨by kernel_rfl, by kernel_rfl, by kernel_rfl, by kernel_rfl⟩
theorem row179 : RowOk Tryz.prog 179 ⟨.func, 1, 8, .nilf⟩ := ⟨by kernel_rfl, by kernel_rfl, by kernel_rfl, by kernel_rfl⟩
theorem row180 : RowOk Tryz.prog 180 ⟨.func, 1, 8, .nilf⟩ := ⟨by kernel_rfl, by kernel_rfl, by kernel_rfl, by kernel_rfl⟩
theorem row181 : RowOk Tryz.prog 181 ⟨.func, 1, 8, .nilf⟩ := ⟨by kernel_rfl, by kernel_rfl, by kernel_rfl, by kernel_rfl⟩
theorem row182 : RowOk Tryz.prog 182 ⟨.func, 1, 8, .nilf⟩ := ⟨by kernel_rfl, by kernel_rfl, by kernel_rfl, by kernel_rfl⟩
theorem row184 : RowOk Tryz.prog 184 ⟨.func, 1, 8, .nilf⟩ := ⟨by kernel_rfl, by kernel_rfl, by kernel_rfl, by kernel_rfl⟩
theorem row185 : RowOk Tryz.prog 185 ⟨.func, 1, 8, .nilf⟩ := ⟨by kernel_rfl, by kernel_rfl, by kernel_rfl, by kernel_rfl⟩
theorem row186 : RowOk Tryz.prog 186 ⟨.func, 1, 8, .nilf⟩ := ⟨by kernel_rfl, by kernel_rfl, by kernel_rfl, by kernel_rfl⟩
theorem row187 : RowOk Tryz.prog 187 ⟨.func, 1, 8, .nilf⟩ := ⟨by kernel_rfl, by kernel_rfl, by kernel_rfl, by kernel_rfl⟩
theorem row188 : RowOk Tryz.prog 188 ⟨.struct [(0, 17)], 1, 8, .agg [.nilp]⟩ := ⟨by kernel_rfl, by kernel_rfl, by kernel_rfl, by kernel_rfl⟩
theorem row191 : RowOk Tryz.prog 191 ⟨.func, 1, 8, .nilf⟩ := ⟨by kernel_rfl, by kernel_rfl, by kernel_rfl, by kernel_rfl⟩
theorem row192 : RowOk Tryz.prog 192 ⟨.func, 1, 8, .nilf⟩ := ⟨by kernel_rfl, by kernel_rfl, by kernel_rfl, by kernel_rfl⟩
theorem row193 : RowOk Tryz.prog 193 ⟨.func, 1, 8, .nilf⟩ := ⟨by kernel_rfl, by kernel_rfl, by kernel_rfl, by kernel_rfl⟩
theorem row194 : RowOk Tryz.prog 194 ⟨.iface, 1, 16, .nili⟩ := ⟨by kernel_rfl, by kernel_rfl, by kernel_rfl, by kernel_rfl⟩
theorem row196 : RowOk Tryz.prog 196 ⟨.func, 1, 8, .nilf⟩ := ⟨by kernel_rfl, by kernel_rfl, by kernel_rfl, by kernel_rfl⟩
theorem row197 : RowOk Tryz.prog 197 ⟨.iface, 1, 16, .nili⟩ := ⟨by kernel_rfl, by kernel_rfl, by kernel_rfl, by kernel_rfl⟩
theorem row198 : RowOk Tryz.prog 198 ⟨.func, 1, 8, .nilf⟩ := ⟨by kernel_rfl, by kernel_rfl, by kernel_rfl, by kernel_rfl⟩
theorem row199 : RowOk Tryz.prog 199 ⟨.iface, 1, 16, .nili⟩ := ⟨by kernel_rfl, by kernel_rfl, by kernel_rfl, by kernel_rfl⟩
theorem row200 : RowOk Tryz.prog 200 ⟨.sl 28, 1, 24, .sl true []⟩ := ⟨by kernel_rfl, by kernel_rfl, by kernel_rfl, by kernel_rfl⟩
theorem row201 : RowOk Tryz.prog 201 ⟨.func, 1, 8, .nilf⟩ := ⟨by kernel_rfl, by kernel_rfl, by kernel_rfl, by kernel_rfl⟩
theorem row202 : RowOk Tryz.prog 202 ⟨.func, 1, 8, .nilf⟩ := ⟨by kernel_rfl, by kernel_rfl, by kernel_rfl, by kernel_rfl⟩
theorem row203 : RowOk Tryz.prog 203 ⟨.func, 1, 8, .nilf⟩ := ⟨by kernel_rfl, by kernel_rfl, by kernel_rfl, by kernel_rfl⟩
theorem row204 : RowOk Tryz.prog 204 ⟨.func, 1, 8, .nilf⟩ := ⟨by kernel_rfl, by kernel_rfl, by kernel_rfl, by kernel_rfl⟩
theorem row205 : RowOk Tryz.prog 205 ⟨.func, 1, 8, .nilf⟩ := ⟨by kernel_rfl, by kernel_rfl, by kernel_rfl, by kernel_rfl⟩
theorem row206 : RowOk Tryz.prog 206 ⟨.ptr, 1, 8, .nilp⟩ := ⟨by kernel_rfl, by kernel_rfl, by kernel_rfl, by kernel_rfl⟩
theorem row207 : RowOk Tryz.prog 207 ⟨.struct [(0, 3), (1, 28)], 2, 24, .agg [.int .i64 0, .nili]⟩ := ⟨by kernel_rfl, by kernel_rfl, by kernel_rfl, by kernel_rfl⟩
theorem row208 : RowOk Tryz.prog 208 ⟨.struct [(0, 3), (1, 28)], 2, 24, .agg [.int .i64 0, .nili]⟩ := ⟨by kernel_rfl, by kernel_rfl, by kernel_rfl, by kernel_rfl⟩
theorem row210 : RowOk Tryz.prog 210 ⟨.func, 1, 8, .nilf⟩ := ⟨by kernel_rfl, by kernel_rfl, by kernel_rfl, by kernel_rfl⟩
theorem row211 : RowOk Tryz.prog 211 ⟨.func, 1, 8, .nilf⟩ := ⟨by kernel_rfl, by kernel_rfl, by kernel_rfl, by kernel_rfl⟩
theorem row212 : RowOk Tryz.prog 212 ⟨.ptr, 1, 8, .nilp⟩ := ⟨by kernel_rfl, by kernel_rfl, by kernel_rfl, by kernel_rfl⟩
theorem row213 : RowOk Tryz.prog 213 ⟨.func, 1, 8, .nilf⟩ := ⟨by kernel_rfl, by kernel_rfl, by kernel_rfl, by kernel_rfl⟩
theorem row214 : RowOk Tryz.prog 214 ⟨.func, 1, 8, .nilf⟩ := ⟨by kernel_rfl, by kernel_rfl, by kernel_rfl, by kernel_rfl⟩
theorem row216 : RowOk Tryz.prog 216 ⟨.func, 1, 8, .nilf⟩ := ⟨by kernel_rfl, by kernel_rfl, by kernel_rfl, by kernel_rfl⟩
theorem row217 : RowOk Tryz.prog 217 ⟨.func, 1, 8, .nilf⟩ := ⟨by kernel_rfl, by kernel_rfl, by kernel_rfl, by kernel_rfl⟩
theorem row218 : RowOk Tryz.prog 218 ⟨.func, 1, 8, .nilf⟩ := ⟨by kernel_rfl, by kernel_rfl, by kernel_rfl, by kernel_rfl⟩
theorem row219 : RowOk Tryz.prog 219 ⟨.func, 1, 8, .nilf⟩ := ⟨by kernel_rfl, by kernel_rfl, by kernel_rfl, by kernel_rfl⟩
theorem row220 : RowOk Tryz.prog 220 ⟨.func, 1, 8, .nilf⟩ := ⟨by kernel_rfl, by kernel_rfl, by kernel_rfl, by kernel_rfl⟩
theorem row222 : RowOk Tryz.prog 222 ⟨.func, 1, 8, .nilf⟩ := ⟨by kernel_rfl, by kernel_rfl, by kernel_rfl, by kernel_rfl⟩
theorem row223 : RowOk Tryz.prog 223 ⟨.func, 1, 8, .nilf⟩ := ⟨by kernel_rfl, by kernel_rfl, by kernel_rfl, by kernel_rfl⟩
theorem row224 : RowOk Tryz.prog 224 ⟨.func, 1, 8, .nilf⟩ := ⟨by kernel_rfl, by kernel_rfl, by kernel_rfl, by kernel_rfl⟩
theorem row225 : RowOk Tryz.prog 225 ⟨.func, 1, 8, .nilf⟩ := ⟨by kernel_rfl, by kernel_rfl, by kernel_rfl, by kernel_rfl⟩
theorem row226 : RowOk Tryz.prog 226 ⟨.func, 1, 8, .nilf⟩ := ⟨by kernel_rfl, by kernel_rfl, by kernel_rfl, by kernel_rfl⟩
theorem row227 : RowOk Tryz.prog 227 ⟨.func, 1, 8, .nilf⟩ := ⟨by kernel_rfl, by kernel_rfl, by kernel_rfl, by kernel_rfl⟩
theorem row228 : RowOk Tryz.prog 228 ⟨.func, 1, 8, .nilf⟩ := ⟨by kernel_rfl, by kernel_rfl, by kernel_rfl, by kernel_rfl⟩
theorem row229 : RowOk Tryz.prog 229 ⟨.func, 1, 8, .nilf⟩ := ⟨by kernel_rfl, by kernel_rfl, by kernel_rfl, by kernel_rfl⟩
theorem row230 : RowOk Tryz.prog 230 ⟨.func, 1, 8, .nilf⟩ := ⟨by kernel_rfl, by kernel_rfl, by kernel_rfl, by kernel_rfl⟩
theorem row234 : RowOk Tryz.prog 234 ⟨.func, 1, 8, .nilf⟩ := ⟨by kernel_rfl, by kernel_rfl, by kernel_rfl, by kernel_rfl⟩
theorem row235 : RowOk Tryz.prog 235 ⟨.func, 1, 8, .nilf⟩ := ⟨by kernel_rfl, by kernel_rfl, by kernel_rfl, by kernel_rfl⟩
theorem row236 : RowOk Tryz.prog 236 ⟨.func, 1, 8, .nilf⟩ := ⟨by kernel_rfl, by kernel_rfl, by kernel_rfl, by kernel_rfl⟩
theorem row237 : RowOk Tryz.prog 237 ⟨.func, 1, 8, .nilf⟩ := ⟨by kernel_rfl, by kernel_rfl, by kernel_rfl, by kernel_rfl⟩
theorem row238 : RowOk Tryz.prog 238 ⟨.func, 1, 8, .nilf⟩ := ⟨by kernel_rfl, by kernel_rfl, by kernel_rfl, by kernel_rfl⟩
theorem row239 : RowOk Tryz.prog 239 ⟨.func, 1, 8, .nilf⟩ := ⟨by kernel_rfl, by kernel_rfl, by kernel_rfl, by kernel_rfl⟩
theorem row240 : RowOk Tryz.prog 240 ⟨.struct [(0, 17), (1, 17), (2, 17), (3, 9)], 4, 40, .agg [.nilp, .nilp, .nilp, .str []]⟩ := ⟨by kernel_rfl, by kernel_rfl, by kernel_rfl, by kernel_rfl⟩
theorem row245 : RowOk Tryz.prog 245 ⟨.func, 1, 8, .nilf⟩ := ⟨by kernel_rfl, by kernel_rfl, by kernel_rfl, by kernel_rfl⟩
theorem row246 : RowOk Tryz.prog 246 ⟨.func, 1, 8, .nilf⟩ := ⟨by kernel_rfl, by kernel_rfl, by kernel_rfl, by kernel_rfl⟩
theorem row248 : RowOk Tryz.prog 248 ⟨.func, 1, 8, .nilf⟩ := ⟨by kernel_rfl, by kernel_rfl, by kernel_rfl, by kernel_rfl⟩
theorem row251 : RowOk Tryz.prog 251 ⟨.struct [(0, 12), (1, 12), (2, 48), (3, 247), (4, 5), (5, 5), (6, 152), (7, 248), (8, 168), (9, 249), (10, 250)], 11, 48, .agg [.int .u64 0, .int .u64 0, .int .u32 0, .int .u8 0, .int .u8 0, .int .u8 0, .int .u8 0, .nilf, .nilp, .int .i32 0, .int .i32 0]⟩ := ⟨by kernel_rfl, by kernel_rfl, by kernel_rfl, by kernel_rfl⟩
theorem row253 : RowOk Tryz.prog 253 ⟨.func, 1, 8, .nilf⟩ := ⟨by kernel_rfl, by kernel_rfl, by kernel_rfl, by kernel_rfl⟩
theorem row254 : RowOk Tryz.prog 254 ⟨.func, 1, 8, .nilf⟩ := ⟨by kernel_rfl, by kernel_rfl, by kernel_rfl, by kernel_rfl⟩
theorem row255 : RowOk Tryz.prog 255 ⟨.struct [(0, 9), (1, 152)], 2, 24, .agg [.str [], .int .u8 0]⟩ := ⟨by kernel_rfl, by kernel_rfl, by kernel_rfl, by kernel_rfl⟩
theorem row258 : RowOk Tryz.prog 258 ⟨.func, 1, 8, .nilf⟩ := ⟨by kernel_rfl, by kernel_rfl, by kernel_rfl, by kernel_rfl⟩
theorem row259 : RowOk Tryz.prog 259 ⟨.int .u16, 1, 2, .int .u16 0⟩ := ⟨by kernel_rfl, by kernel_rfl, by kernel_rfl, by kernel_rfl⟩
theorem row260 : RowOk Tryz.prog 260 ⟨.struct [(0, 249), (1, 259), (2, 259), (3, 48), (4, 48)], 5, 16, .agg [.int .i32 0, .int .u16 0, .int .u16 0, .int .u32 0, .int .u32 0]⟩ := ⟨by kernel_rfl, by kernel_rfl, by kernel_rfl, by kernel_rfl⟩
theorem row262 : RowOk Tryz.prog 262 ⟨.sl 265, 1, 24, .sl true []⟩ := ⟨by kernel_rfl, by kernel_rfl, by kernel_rfl, by kernel_rfl⟩
theorem row264 : RowOk Tryz.prog 264 ⟨.struct [(0, 249), (1, 250), (2, 263), (3, 263)], 4, 16, .agg [.int .i32 0, .int .i32 0, .int .i32 0, .int .i32 0]⟩ := ⟨by kernel_rfl, by kernel_rfl, by kernel_rfl, by kernel_rfl⟩
theorem row266 : RowOk Tryz.prog 266 ⟨.ptr, 1, 8, .nilp⟩ := ⟨by kernel_rfl, by kernel_rfl, by kernel_rfl, by kernel_rfl⟩
theorem rows_ok : AllRows Tryz.prog rows := ⟨row1, row2, row3, row4, row5, row7, row9, row12, row13, row18, row20, row21, row22, row23, row24, row25, row26, row27, row28, row30, row32, row33, row34, row35, row36, row37, row38, row39, row40, row42, row43, row44, row45, row46, row47, row48, row49, row50, row52, row53, row54, row55, row56, row57, row59, row60, row61, row62, row63, row64, row65, row66, row67, row68, row69, row70, row71, row72, row73, row74, row76, row77, row79, row80, row81, row82, row83, row84, row86, row88, row89, row90, row91, row92, row93, row94, row95, row96, row97, row98, row99, row100, row101, row102, row103, row104, row105, row106, row107, row108, row109, row110, row111, row112, row113, row114, row115, row116, row117, row118, row119, row120, row121, row122, row124, row125, row127, row128, row129, row131, row132, row133, row134, row135, row136, row137, row138, row139, row140, row141, row142, row143, row148, row149, row151, row153, row154, row155, row156, row157, row158, row159, row160, row161, row162, row163, row164, row165, row166, row167, row168, row170, row171, row172, row173, row174, row175, row176, row177, row178, row179, row180, row181, row182, row184, row185, row186, row187, row188, row191, row192, row193, row194, row196, row197, row198, row199, row200, row201, row202, row203, row204, row205, row206, row207, row208, row210, row211, row212, row213, row214, row216, row217, row218, row219, row220, row222, row223, row224, row225, row226, row227, row228, row229, row230, row234, row235, row236, row237, row238, row239, row240, row245, row246, row248, row251, row253, row254, row255, row258, row259, row260, row262, row264, row266, trivial⟩
noncomputable def cx (base : Fr) : Ctx := { P := Tryz.prog, tab := look rows, base := base, ok := fun t i h => look_ok rows_ok t i h, mixed := by kernel_rfl }
end Go.Proofs.YtaenjdichndafaaGreatDoor
