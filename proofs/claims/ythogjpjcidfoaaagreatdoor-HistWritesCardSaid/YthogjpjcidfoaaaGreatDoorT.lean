/- The types of the program, as a table; the context of the abstract semantics. Printed by table.py. -/
import Derived.Test.YthogjpjcidfoaaaGreatDoorProg
import Derived.Test.YthogjpjcidfoaaaGreatDoorAb
import Derived.KernelRfl
set_option maxRecDepth 100000
namespace Go.Proofs.YthogjpjcidfoaaaGreatDoor
open Go Go.Abs
def look : List (Nat × Ti) → Nat → Option Ti
  | [], _ => none
  | (k, i) :: r, t => bif Nat.beq k t then some i else look r t
def rows : List (Nat × Ti) := [
  (1, ⟨.func, 1, 8, .nilf⟩),
  (2, ⟨.int .i64, 1, 8, .int .i64 0⟩),
  (3, ⟨.int .i64, 1, 8, .int .i64 0⟩),
  (4, ⟨.bool, 1, 1, .bool false⟩),
  (5, ⟨.int .u8, 1, 1, .int .u8 0⟩),
  (7, ⟨.struct [(0, 2), (1, 3), (2, 4), (3, 6)], 4, 24, .agg [.int .i64 0, .int .i64 0, .bool false, .int .u8 0]⟩),
  (9, ⟨.str, 1, 16, .str []⟩),
  (12, ⟨.int .u64, 1, 8, .int .u64 0⟩),
  (13, ⟨.struct [(0, 9), (1, 12)], 2, 24, .agg [.str [], .int .u64 0]⟩),
  (18, ⟨.struct [(0, 17)], 1, 8, .agg [.nilp]⟩),
  (20, ⟨.iface, 1, 16, .nili⟩),
  (21, ⟨.int .i32, 1, 4, .int .i32 0⟩),
  (22, ⟨.sl 90, 1, 24, .sl true []⟩),
  (23, ⟨.int .u64, 1, 8, .int .u64 0⟩),
  (24, ⟨.sl 82, 1, 24, .sl true []⟩),
  (25, ⟨.int .u32, 1, 4, .int .u32 0⟩),
  (26, ⟨.struct [(0, 22), (1, 23), (2, 23), (3, 3), (4, 23), (5, 24), (6, 25), (7, 9)], 8, 104, .agg [.sl true [], .int .u64 0, .int .u64 0, .int .i64 0, .int .u64 0, .sl true [], .int .u32 0, .str []]⟩),
  (27, ⟨.struct [(0, 22), (1, 23), (2, 23), (3, 3), (4, 23), (5, 24), (6, 25), (7, 9)], 8, 104, .agg [.sl true [], .int .u64 0, .int .u64 0, .int .i64 0, .int .u64 0, .sl true [], .int .u32 0, .str []]⟩),
  (28, ⟨.func, 1, 8, .nilf⟩),
  (29, ⟨.func, 1, 8, .nilf⟩),
  (30, ⟨.func, 1, 8, .nilf⟩),
  (31, ⟨.iface, 1, 16, .nili⟩),
  (32, ⟨.iface, 1, 16, .nili⟩),
  (34, ⟨.func, 1, 8, .nilf⟩),
  (35, ⟨.func, 1, 8, .nilf⟩),
  (36, ⟨.func, 1, 8, .nilf⟩),
  (37, ⟨.int .i64, 1, 8, .int .i64 0⟩),
  (38, ⟨.func, 1, 8, .nilf⟩),
  (39, ⟨.sl 23, 1, 24, .sl true []⟩),
  (40, ⟨.func, 1, 8, .nilf⟩),
  (41, ⟨.struct [(0, 4), (1, 23)], 2, 16, .agg [.bool false, .int .u64 0]⟩),
  (42, ⟨.struct [(0, 4), (1, 23)], 2, 16, .agg [.bool false, .int .u64 0]⟩),
  (43, ⟨.struct [(0, 22), (1, 23), (2, 23), (3, 23), (4, 42), (6, 42), (8, 42), (10, 39), (11, 39), (12, 24), (13, 25), (14, 9)], 15, 192, .agg [.sl true [], .int .u64 0, .int .u64 0, .int .u64 0, .bool false, .int .u64 0, .bool false, .int .u64 0, .bool false, .int .u64 0, .sl true [], .sl true [], .sl true [], .int .u32 0, .str []]⟩),
  (44, ⟨.struct [(0, 22), (1, 23), (2, 23), (3, 23), (4, 42), (6, 42), (8, 42), (10, 39), (11, 39), (12, 24), (13, 25), (14, 9)], 15, 192, .agg [.sl true [], .int .u64 0, .int .u64 0, .int .u64 0, .bool false, .int .u64 0, .bool false, .int .u64 0, .bool false, .int .u64 0, .sl true [], .sl true [], .sl true [], .int .u32 0, .str []]⟩),
  (46, ⟨.func, 1, 8, .nilf⟩),
  (47, ⟨.func, 1, 8, .nilf⟩),
  (48, ⟨.func, 1, 8, .nilf⟩),
  (50, ⟨.func, 1, 8, .nilf⟩),
  (51, ⟨.func, 1, 8, .nilf⟩),
  (52, ⟨.func, 1, 8, .nilf⟩),
  (53, ⟨.func, 1, 8, .nilf⟩),
  (54, ⟨.func, 1, 8, .nilf⟩),
  (55, ⟨.func, 1, 8, .nilf⟩),
  (56, ⟨.func, 1, 8, .nilf⟩),
  (57, ⟨.func, 1, 8, .nilf⟩),
  (58, ⟨.func, 1, 8, .nilf⟩),
  (59, ⟨.func, 1, 8, .nilf⟩),
  (60, ⟨.func, 1, 8, .nilf⟩),
  (61, ⟨.func, 1, 8, .nilf⟩),
  (63, ⟨.func, 1, 8, .nilf⟩),
  (64, ⟨.func, 1, 8, .nilf⟩),
  (65, ⟨.func, 1, 8, .nilf⟩),
  (66, ⟨.func, 1, 8, .nilf⟩),
  (67, ⟨.func, 1, 8, .nilf⟩),
  (68, ⟨.func, 1, 8, .nilf⟩),
  (69, ⟨.func, 1, 8, .nilf⟩),
  (70, ⟨.sl 3, 1, 24, .sl true []⟩),
  (71, ⟨.func, 1, 8, .nilf⟩),
  (72, ⟨.ptr, 1, 8, .nilp⟩),
  (73, ⟨.sl 5, 1, 24, .sl true []⟩),
  (74, ⟨.struct [(0, 72), (1, 73)], 2, 32, .agg [.nilp, .sl true []]⟩),
  (75, ⟨.struct [(0, 72), (1, 73)], 2, 32, .agg [.nilp, .sl true []]⟩),
  (76, ⟨.struct [(0, 75)], 2, 32, .agg [.nilp, .sl true []]⟩),
  (77, ⟨.struct [(0, 75)], 2, 32, .agg [.nilp, .sl true []]⟩),
  (78, ⟨.func, 1, 8, .nilf⟩),
  (79, ⟨.func, 1, 8, .nilf⟩),
  (80, ⟨.func, 1, 8, .nilf⟩),
  (81, ⟨.struct [(0, 22), (1, 23), (2, 3), (3, 23), (4, 9), (5, 9), (6, 9)], 7, 96, .agg [.sl true [], .int .u64 0, .int .i64 0, .int .u64 0, .str [], .str [], .str []]⟩),
  (82, ⟨.struct [(0, 22), (1, 23), (2, 3), (3, 23), (4, 9), (5, 9), (6, 9)], 7, 96, .agg [.sl true [], .int .u64 0, .int .i64 0, .int .u64 0, .str [], .str [], .str []]⟩),
  (83, ⟨.ptr, 1, 8, .nilp⟩),
  (84, ⟨.func, 1, 8, .nilf⟩),
  (85, ⟨.func, 1, 8, .nilf⟩),
  (86, ⟨.sl 88, 1, 24, .sl true []⟩),
  (87, ⟨.struct [(0, 3), (1, 9), (2, 4), (3, 23), (4, 86), (5, 22), (6, 9), (7, 9)], 8, 120, .agg [.int .i64 0, .str [], .bool false, .int .u64 0, .sl true [], .sl true [], .str [], .str []]⟩),
  (88, ⟨.struct [(0, 3), (1, 9), (2, 4), (3, 23), (4, 86), (5, 22), (6, 9), (7, 9)], 8, 120, .agg [.int .i64 0, .str [], .bool false, .int .u64 0, .sl true [], .sl true [], .str [], .str []]⟩),
  (89, ⟨.struct [(0, 9), (1, 4), (2, 88), (10, 9)], 11, 160, .agg [.str [], .bool false, .int .i64 0, .str [], .bool false, .int .u64 0, .sl true [], .sl true [], .str [], .str [], .str []]⟩),
  (90, ⟨.struct [(0, 9), (1, 4), (2, 88), (10, 9)], 11, 160, .agg [.str [], .bool false, .int .i64 0, .str [], .bool false, .int .u64 0, .sl true [], .sl true [], .str [], .str [], .str []]⟩),
  (91, ⟨.func, 1, 8, .nilf⟩),
  (92, ⟨.func, 1, 8, .nilf⟩),
  (93, ⟨.func, 1, 8, .nilf⟩),
  (94, ⟨.func, 1, 8, .nilf⟩),
  (95, ⟨.func, 1, 8, .nilf⟩),
  (96, ⟨.func, 1, 8, .nilf⟩),
  (97, ⟨.func, 1, 8, .nilf⟩),
  (98, ⟨.func, 1, 8, .nilf⟩),
  (99, ⟨.func, 1, 8, .nilf⟩),
  (100, ⟨.func, 1, 8, .nilf⟩),
  (101, ⟨.func, 1, 8, .nilf⟩),
  (102, ⟨.func, 1, 8, .nilf⟩),
  (103, ⟨.ptr, 1, 8, .nilp⟩),
  (104, ⟨.func, 1, 8, .nilf⟩),
  (105, ⟨.func, 1, 8, .nilf⟩),
  (106, ⟨.ptr, 1, 8, .nilp⟩),
  (107, ⟨.func, 1, 8, .nilf⟩),
  (108, ⟨.func, 1, 8, .nilf⟩),
  (109, ⟨.func, 1, 8, .nilf⟩),
  (110, ⟨.func, 1, 8, .nilf⟩),
  (111, ⟨.func, 1, 8, .nilf⟩),
  (112, ⟨.func, 1, 8, .nilf⟩),
  (113, ⟨.func, 1, 8, .nilf⟩),
  (114, ⟨.func, 1, 8, .nilf⟩),
  (115, ⟨.sl 157, 1, 24, .sl true []⟩),
  (116, ⟨.struct [(0, 32), (1, 9), (2, 3), (3, 3), (4, 115)], 5, 72, .agg [.nili, .str [], .int .i64 0, .int .i64 0, .sl true []]⟩),
  (117, ⟨.struct [(0, 32), (1, 9), (2, 3), (3, 3), (4, 115)], 5, 72, .agg [.nili, .str [], .int .i64 0, .int .i64 0, .sl true []]⟩),
  (118, ⟨.sl 122, 1, 24, .sl true []⟩),
  (120, ⟨.func, 1, 8, .nilf⟩),
  (121, ⟨.struct [(0, 3), (1, 3), (2, 23), (3, 9), (4, 9)], 5, 56, .agg [.int .i64 0, .int .i64 0, .int .u64 0, .str [], .str []]⟩),
  (122, ⟨.struct [(0, 3), (1, 3), (2, 23), (3, 9), (4, 9)], 5, 56, .agg [.int .i64 0, .int .i64 0, .int .u64 0, .str [], .str []]⟩),
  (123, ⟨.func, 1, 8, .nilf⟩),
  (125, ⟨.func, 1, 8, .nilf⟩),
  (127, ⟨.func, 1, 8, .nilf⟩),
  (129, ⟨.func, 1, 8, .nilf⟩),
  (131, ⟨.func, 1, 8, .nilf⟩),
  (132, ⟨.func, 1, 8, .nilf⟩),
  (133, ⟨.func, 1, 8, .nilf⟩),
  (134, ⟨.func, 1, 8, .nilf⟩),
  (135, ⟨.func, 1, 8, .nilf⟩),
  (136, ⟨.func, 1, 8, .nilf⟩),
  (137, ⟨.func, 1, 8, .nilf⟩),
  (138, ⟨.func, 1, 8, .nilf⟩),
  (139, ⟨.func, 1, 8, .nilf⟩),
  (140, ⟨.func, 1, 8, .nilf⟩),
  (141, ⟨.func, 1, 8, .nilf⟩),
  (142, ⟨.int .u64, 1, 8, .int .u64 0⟩),
  (143, ⟨.func, 1, 8, .nilf⟩),
  (145, ⟨.func, 1, 8, .nilf⟩),
  (146, ⟨.func, 1, 8, .nilf⟩),
  (147, ⟨.func, 1, 8, .nilf⟩),
  (148, ⟨.func, 1, 8, .nilf⟩),
  (149, ⟨.func, 1, 8, .nilf⟩),
  (151, ⟨.func, 1, 8, .nilf⟩),
  (152, ⟨.func, 1, 8, .nilf⟩),
  (153, ⟨.func, 1, 8, .nilf⟩),
  (154, ⟨.func, 1, 8, .nilf⟩),
  (156, ⟨.func, 1, 8, .nilf⟩),
  (157, ⟨.struct [(0, 3), (1, 3), (2, 23), (3, 9), (4, 9)], 5, 56, .agg [.int .i64 0, .int .i64 0, .int .u64 0, .str [], .str []]⟩),
  (158, ⟨.func, 1, 8, .nilf⟩),
  (159, ⟨.func, 1, 8, .nilf⟩),
  (164, ⟨.func, 1, 8, .nilf⟩),
  (165, ⟨.iface, 1, 16, .nili⟩),
  (167, ⟨.func, 1, 8, .nilf⟩),
  (169, ⟨.func, 1, 8, .nilf⟩),
  (170, ⟨.func, 1, 8, .nilf⟩),
  (171, ⟨.func, 1, 8, .nilf⟩),
  (172, ⟨.func, 1, 8, .nilf⟩),
  (173, ⟨.func, 1, 8, .nilf⟩),
  (174, ⟨.func, 1, 8, .nilf⟩),
  (176, ⟨.func, 1, 8, .nilf⟩),
  (177, ⟨.func, 1, 8, .nilf⟩),
  (178, ⟨.func, 1, 8, .nilf⟩),
  (179, ⟨.func, 1, 8, .nilf⟩),
  (180, ⟨.func, 1, 8, .nilf⟩),
  (181, ⟨.func, 1, 8, .nilf⟩),
  (182, ⟨.func, 1, 8, .nilf⟩),
  (183, ⟨.func, 1, 8, .nilf⟩),
  (184, ⟨.func, 1, 8, .nilf⟩),
  (185, ⟨.ptr, 1, 8, .nilp⟩),
  (186, ⟨.ptr, 1, 8, .nilp⟩),
  (187, ⟨.struct [(0, 3), (1, 32)], 2, 24, .agg [.int .i64 0, .nili]⟩),
  (188, ⟨.struct [(0, 3), (1, 32)], 2, 24, .agg [.int .i64 0, .nili]⟩),
  (189, ⟨.func, 1, 8, .nilf⟩),
  (190, ⟨.func, 1, 8, .nilf⟩),
  (191, ⟨.sl 42, 1, 24, .sl true []⟩),
  (192, ⟨.func, 1, 8, .nilf⟩),
  (193, ⟨.func, 1, 8, .nilf⟩),
  (194, ⟨.sl 9, 1, 24, .sl true []⟩),
  (195, ⟨.struct [(0, 3), (1, 23), (2, 9), (3, 194)], 4, 56, .agg [.int .i64 0, .int .u64 0, .str [], .sl true []]⟩),
  (196, ⟨.struct [(0, 3), (1, 23), (2, 9), (3, 194)], 4, 56, .agg [.int .i64 0, .int .u64 0, .str [], .sl true []]⟩),
  (197, ⟨.func, 1, 8, .nilf⟩),
  (198, ⟨.func, 1, 8, .nilf⟩),
  (199, ⟨.func, 1, 8, .nilf⟩),
  (200, ⟨.func, 1, 8, .nilf⟩),
  (201, ⟨.ptr, 1, 8, .nilp⟩),
  (202, ⟨.func, 1, 8, .nilf⟩),
  (203, ⟨.ptr, 1, 8, .nilp⟩),
  (204, ⟨.struct [(0, 9), (1, 3), (2, 32), (3, 3)], 4, 48, .agg [.str [], .int .i64 0, .nili, .int .i64 0]⟩),
  (205, ⟨.struct [(0, 9), (1, 3), (2, 32), (3, 3)], 4, 48, .agg [.str [], .int .i64 0, .nili, .int .i64 0]⟩),
  (206, ⟨.func, 1, 8, .nilf⟩),
  (207, ⟨.struct [(0, 17)], 1, 8, .agg [.nilp]⟩),
  (210, ⟨.func, 1, 8, .nilf⟩),
  (211, ⟨.func, 1, 8, .nilf⟩),
  (212, ⟨.func, 1, 8, .nilf⟩),
  (213, ⟨.iface, 1, 16, .nili⟩),
  (215, ⟨.func, 1, 8, .nilf⟩),
  (216, ⟨.iface, 1, 16, .nili⟩),
  (217, ⟨.func, 1, 8, .nilf⟩),
  (218, ⟨.iface, 1, 16, .nili⟩),
  (219, ⟨.sl 32, 1, 24, .sl true []⟩),
  (220, ⟨.func, 1, 8, .nilf⟩),
  (221, ⟨.func, 1, 8, .nilf⟩),
  (223, ⟨.func, 1, 8, .nilf⟩),
  (224, ⟨.func, 1, 8, .nilf⟩),
  (225, ⟨.struct [(0, 86), (1, 9)], 2, 40, .agg [.sl true [], .str []]⟩),
  (226, ⟨.struct [(0, 86), (1, 9)], 2, 40, .agg [.sl true [], .str []]⟩),
  (227, ⟨.func, 1, 8, .nilf⟩),
  (228, ⟨.func, 1, 8, .nilf⟩),
  (229, ⟨.func, 1, 8, .nilf⟩),
  (230, ⟨.struct [(0, 22), (1, 9)], 2, 40, .agg [.sl true [], .str []]⟩),
  (231, ⟨.struct [(0, 22), (1, 9)], 2, 40, .agg [.sl true [], .str []]⟩),
  (232, ⟨.func, 1, 8, .nilf⟩),
  (233, ⟨.func, 1, 8, .nilf⟩),
  (234, ⟨.func, 1, 8, .nilf⟩),
  (238, ⟨.func, 1, 8, .nilf⟩),
  (239, ⟨.func, 1, 8, .nilf⟩),
  (240, ⟨.func, 1, 8, .nilf⟩),
  (241, ⟨.func, 1, 8, .nilf⟩),
  (242, ⟨.func, 1, 8, .nilf⟩),
  (243, ⟨.func, 1, 8, .nilf⟩),
  (244, ⟨.func, 1, 8, .nilf⟩),
  (245, ⟨.func, 1, 8, .nilf⟩),
  (246, ⟨.func, 1, 8, .nilf⟩),
  (247, ⟨.func, 1, 8, .nilf⟩),
  (248, ⟨.func, 1, 8, .nilf⟩),
  (250, ⟨.func, 1, 8, .nilf⟩),
  (251, ⟨.func, 1, 8, .nilf⟩),
  (252, ⟨.ptr, 1, 8, .nilp⟩),
  (253, ⟨.func, 1, 8, .nilf⟩),
  (254, ⟨.ptr, 1, 8, .nilp⟩),
  (255, ⟨.struct [(0, 3), (1, 32)], 2, 24, .agg [.int .i64 0, .nili]⟩),
  (256, ⟨.struct [(0, 3), (1, 32)], 2, 24, .agg [.int .i64 0, .nili]⟩),
  (257, ⟨.func, 1, 8, .nilf⟩),
  (259, ⟨.func, 1, 8, .nilf⟩),
  (260, ⟨.func, 1, 8, .nilf⟩),
  (261, ⟨.func, 1, 8, .nilf⟩),
  (262, ⟨.func, 1, 8, .nilf⟩),
  (264, ⟨.func, 1, 8, .nilf⟩),
  (265, ⟨.func, 1, 8, .nilf⟩),
  (266, ⟨.func, 1, 8, .nilf⟩),
  (267, ⟨.func, 1, 8, .nilf⟩),
  (268, ⟨.func, 1, 8, .nilf⟩),
  (272, ⟨.func, 1, 8, .nilf⟩),
  (273, ⟨.func, 1, 8, .nilf⟩),
  (274, ⟨.func, 1, 8, .nilf⟩),
  (275, ⟨.func, 1, 8, .nilf⟩),
  (276, ⟨.func, 1, 8, .nilf⟩),
  (277, ⟨.func, 1, 8, .nilf⟩),
  (278, ⟨.struct [(0, 17), (1, 17), (2, 17), (3, 9)], 4, 40, .agg [.nilp, .nilp, .nilp, .str []]⟩),
  (283, ⟨.func, 1, 8, .nilf⟩),
  (284, ⟨.func, 1, 8, .nilf⟩),
  (286, ⟨.func, 1, 8, .nilf⟩),
  (289, ⟨.struct [(0, 12), (1, 12), (2, 25), (3, 285), (4, 5), (5, 5), (6, 168), (7, 286), (8, 201), (9, 287), (10, 288)], 11, 48, .agg [.int .u64 0, .int .u64 0, .int .u32 0, .int .u8 0, .int .u8 0, .int .u8 0, .int .u8 0, .nilf, .nilp, .int .i32 0, .int .i32 0]⟩),
  (291, ⟨.func, 1, 8, .nilf⟩),
  (292, ⟨.func, 1, 8, .nilf⟩),
  (293, ⟨.struct [(0, 9), (1, 168)], 2, 24, .agg [.str [], .int .u8 0]⟩),
  (296, ⟨.func, 1, 8, .nilf⟩),
  (297, ⟨.int .u16, 1, 2, .int .u16 0⟩),
  (298, ⟨.struct [(0, 287), (1, 297), (2, 297), (3, 25), (4, 25)], 5, 16, .agg [.int .i32 0, .int .u16 0, .int .u16 0, .int .u32 0, .int .u32 0]⟩),
  (300, ⟨.sl 303, 1, 24, .sl true []⟩),
  (302, ⟨.struct [(0, 287), (1, 288), (2, 301), (3, 301)], 4, 16, .agg [.int .i32 0, .int .i32 0, .int .i32 0, .int .i32 0]⟩),
  (304, ⟨.ptr, 1, 8, .nilp⟩)]
def AllRows (P : Program) : List (Nat × Ti) → Prop
  | [] => True
  | (k, i) :: r => RowOk P k i ∧ AllRows P r
theorem look_ok {P : Program} : ∀ {l : List (Nat × Ti)}, AllRows P l → ∀ t i, look l t = some i → RowOk P t i
  | [], _, t, i, h => by simp [look] at h
  | (k, j) :: r, ha, t, i, h => by
    unfold look at h
    cases hb : Nat.beq k t with
    | true => rw [hb] at h; simp at h; subst h; rw [← Nat.eq_of_beq_eq_true hb]; exact ha.1
    | false => rw [hb] at h; exact look_ok ha.2 t i h
theorem row1 : RowOk Tryz.prog 1 ⟨.func, 1, 8, .nilf⟩ := ⟨by kernel_rfl, by kernel_rfl, by kernel_rfl, by kernel_rfl⟩
theorem row2 : RowOk Tryz.prog 2 ⟨.int .i64, 1, 8, .int .i64 0⟩ := ⟨by kernel_rfl, by kernel_rfl, by kernel_rfl, by kernel_rfl⟩
theorem row3 : RowOk Tryz.prog 3 ⟨.int .i64, 1, 8, .int .i64 0⟩ := ⟨by kernel_rfl, by kernel_rfl, by kernel_rfl, by kernel_rfl⟩
theorem row4 : RowOk Tryz.prog 4 ⟨.bool, 1, 1, .bool false⟩ := ⟨by kernel_rfl, by kernel_rfl, by kernel_rfl, by kernel_rfl⟩
theorem row5 : RowOk Tryz.prog 5 ⟨.int .u8, 1, 1, .int .u8 0⟩ := ⟨by kernel_rfl, by kernel_rfl, by kernel_rfl, by kernel_rfl⟩
theorem row7 : RowOk Tryz.prog 7 ⟨.struct [(0, 2), (1, 3), (2, 4), (3, 6)], 4, 24, .agg [.int .i64 0, .int .i64 0, .bool false, .int .u8 0]⟩ := ⟨by kernel_rfl, by kernel_rfl, by kernel_rfl, by kernel_rfl⟩
theorem row9 : RowOk Tryz.prog 9 ⟨.str, 1, 16, .str []⟩ := ⟨by kernel_rfl, by kernel_rfl, by kernel_rfl, by kernel_rfl⟩
theorem row12 : RowOk Tryz.prog 12 ⟨.int .u64, 1, 8, .int .u64 0⟩ := ⟨by kernel_rfl, by kernel_rfl, by kernel_rfl, by kernel_rfl⟩
theorem row13 : RowOk Tryz.prog 13 ⟨.struct [(0, 9), (1, 12)], 2, 24, .agg [.str [], .int .u64 0]⟩ := ⟨by kernel_rfl, by kernel_rfl, by kernel_rfl, by kernel_rfl⟩
theorem row18 : RowOk Tryz.prog 18 ⟨.struct [(0, 17)], 1, 8, .agg [.nilp]⟩ := ⟨by kernel_rfl, by kernel_rfl, by kernel_rfl, by kernel_rfl⟩
theorem row20 : RowOk Tryz.prog 20 ⟨.iface, 1, 16, .nili⟩ := ⟨by kernel_rfl, by kernel_rfl, by kernel_rfl, by kernel_rfl⟩
theorem row21 : RowOk Tryz.prog 21 ⟨.int .i32, 1, 4, .int .i32 0⟩ := ⟨by kernel_rfl, by kernel_rfl, by kernel_rfl, by kernel_rfl⟩
theorem row22 : RowOk Tryz.prog 22 ⟨.sl 90, 1, 24, .sl true []⟩ := ⟨by kernel_rfl, by kernel_rfl, by kernel_rfl, by kernel_rfl⟩
theorem row23 : RowOk Tryz.prog 23 ⟨.int .u64, 1, 8, .int .u64 0⟩ := ⟨by kernel_rfl, by kernel_rfl, by kernel_rfl, by kernel_rfl⟩
theorem row24 : RowOk Tryz.prog 24 ⟨.sl 82, 1, 24, .sl true []⟩ := ⟨by kernel_rfl, by kernel_rfl, by kernel_rfl, by kernel_rfl⟩
theorem row25 : RowOk Tryz.prog 25 ⟨.int .u32, 1, 4, .int .u32 0⟩ := ⟨by kernel_rfl, by kernel_rfl, by kernel_rfl, by kernel_rfl⟩
theorem row26 : RowOk Tryz.prog 26 ⟨.struct [(0, 22), (1, 23), (2, 23), (3, 3), (4, 23), (5, 24), (6, 25), (7, 9)], 8, 104, .agg [.sl true [], .int .u64 0, .int .u64 0, .int .i64 0, .int .u64 0, .sl true [], .int .u32 0, .str []]⟩ := ⟨by kernel_rfl, by kernel_rfl, by kernel_rfl, by kernel_rfl⟩
theorem row27 : RowOk Tryz.prog 27 ⟨.struct [(0, 22), (1, 23), (2, 23), (3, 3), (4, 23), (5, 24), (6, 25), (7, 9)], 8, 104, .agg [.sl true [], .int .u64 0, .int .u64 0, .int .i64 0, .int .u64 0, .sl true [], .int .u32 0, .str []]⟩ := ⟨by kernel_rfl, by kernel_rfl, by kernel_rfl, by kernel_rfl⟩
theorem row28 : RowOk Tryz.prog 28 ⟨.func, 1, 8, .nilf⟩ := ⟨by kernel_rfl, by kernel_rfl, by kernel_rfl, by kernel_rfl⟩
theorem row29 : RowOk Tryz.prog 29 ⟨.func, 1, 8, .nilf⟩ := ⟨by kernel_rfl, by kernel_rfl, by kernel_rfl, by kernel_rfl⟩
theorem row30 : RowOk Tryz.prog 30 ⟨.func, 1, 8, .nilf⟩ := ⟨by kernel_rfl, by kernel_rfl, by kernel_rfl, by kernel_rfl⟩
theorem row31 : RowOk Tryz.prog 31 ⟨.iface, 1, 16, .nili⟩ := ⟨by kernel_rfl, by kernel_rfl, by kernel_rfl, by kernel_rfl⟩
theorem row32 : RowOk Tryz.prog 32 ⟨.iface, 1, 16, .nili⟩ := ⟨by kernel_rfl, by kernel_rfl, by kernel_rfl, by kernel_rfl⟩
theorem row34 : RowOk Tryz.prog 34 ⟨.func, 1, 8, .nilf⟩ := ⟨by kernel_rfl, by kernel_rfl, by kernel_rfl, by kernel_rfl⟩
theorem row35 : RowOk Tryz.prog 35 ⟨.func, 1, 8, .nilf⟩ := ⟨by kernel_rfl, by kernel_rfl, by kernel_rfl, by kernel_rfl⟩
theorem row36 : RowOk Tryz.prog 36 ⟨.func, 1, 8, .nilf⟩ := ⟨by kernel_rfl, by kernel_rfl, by kernel_rfl, by kernel_rfl⟩
theorem row37 : RowOk Tryz.prog 37 ⟨.int .i64, 1, 8, .int .i64 0⟩ := ⟨by kernel_rfl, by kernel_rfl, by kernel_rfl, by kernel_rfl⟩
theorem row38 : RowOk Tryz.prog 38 ⟨.func, 1, 8, .nilf⟩ := ⟨by kernel_rfl, by kernel_rfl, by kernel_rfl, by kernel_rfl⟩
theorem row39 : RowOk Tryz.prog 39 ⟨.sl 23, 1, 24, .sl true []⟩ := ⟨by kernel_rfl, by kernel_rfl, by kernel_rfl, by kernel_rfl⟩
theorem row40 : RowOk Tryz.prog 40 ⟨.func, 1, 8, .nilf⟩ := ⟨by kernel_rfl, by kernel_rfl, by kernel_rfl, by kernel_rfl⟩
theorem row41 : RowOk Tryz.prog 41 ⟨.struct [(0, 4), (1, 23)], 2, 16, .agg [.bool false, .int .u64 0]⟩ := ⟨by kernel_rfl, by kernel_rfl, by kernel_rfl, by kernel_rfl⟩
theorem row42 : RowOk Tryz.prog 42 ⟨.struct [(0, 4), (1, 23)], 2, 16, .agg [.bool false, .int .u64 0]⟩ := ⟨by kernel_rfl, by kernel_rfl, by kernel_rfl, by kernel_rfl⟩
theorem row43 : RowOk Tryz.prog 43 ⟨.struct [(0, 22), (1, 23), (2, 23), (3, 23), (4, 42), (6, 42), (8, 42), (10, 39), (11, 39), (12, 24), (13, 25), (14, 9)], 15, 192, .agg [.sl true [], .int .u64 0, .int .u64 0, .int .u64 0, .bool false, .int .u64 0, .bool false, .int .u64 0, .bool false, .int .u64 0, .sl true [], .sl true [], .sl true [], .int .u32 0, .str []]⟩ := ⟨by kernel_rfl, by kernel_rfl, by kernel_rfl, by kernel_rfl⟩
theorem row44 : RowOk Tryz.prog 44 ⟨.struct [(0, 22), (1, 23), (2, 23), (3, 23), (4, 42), (6, 42), (8, 42), (10, 39), (11, 39), (12, 24), (13, 25), (14, 9)], 15, 192, .agg [.sl true [], .int .u64 0, .int .u64 0, .int .u64 0, .bool false, .int .u64 0, .bool false, .int .u64 0, .bool false, .int .u64 0, .sl true [], .sl true [], .sl true [], .int .u32 0, .str []]⟩ := ⟨by kernel_rfl, by kernel_rfl, by kernel_rfl, by kernel_rfl⟩
theorem row46 : RowOk Tryz.prog 46 ⟨.func, 1, 8, .nilf⟩ := ⟨by kernel_rfl, by kernel_rfl, by kernel_rfl, by kernel_rfl⟩
theorem row47 : RowOk Tryz.prog 47 ⟨.func, 1, 8, .nilf⟩ := ⟨by kernel_rfl, by kernel_rfl, by kernel_rfl, by kernel_rfl⟩
theorem row48 : RowOk Tryz.prog 48 ⟨.func, 1, 8, .nilf⟩ := ⟨by kernel_rfl, by kernel_rfl, by kernel_rfl, by kernel_rfl⟩
theorem row50 : RowOk Tryz.prog 50 ⟨.func, 1, 8, .nilf⟩ := ⟨by kernel_rfl, by kernel_rfl, by kernel_rfl, by kernel_rfl⟩
theorem row51 : RowOk Tryz.prog 51 ⟨.func, 1, 8, .nilf⟩ := ⟨by kernel_rfl, by kernel_rfl, by kernel_rfl, by kernel_rfl⟩
theorem row52 : RowOk Tryz.prog 52 ⟨.func, 1, 8, .nilf⟩ := ⟨by kernel_rfl, by kernel_rfl, by kernel_rfl, by kernel_rfl⟩
theorem row53 : RowOk Tryz.prog 53 ⟨.func, 1, 8, .nilf⟩ := ⟨by kernel_rfl, by kernel_rfl, by kernel_rfl, by kernel_rfl⟩
theorem row54 : RowOk Tryz.prog 54 ⟨.func, 1, 8, .nilf⟩ := ⟨by kernel_rfl, by kernel_rfl, by kernel_rfl, by kernel_rfl⟩
theorem row55 : RowOk Tryz.prog 55 ⟨.func, 1, 8, .nilf⟩ := ⟨by kernel_rfl, by kernel_rfl, by kernel_rfl, by kernel_rfl⟩
theorem row56 : RowOk Tryz.prog 56 ⟨.func, 1, 8, .nilf⟩ := ⟨by kernel_rfl, by kernel_rfl, by kernel_rfl, by kernel_rfl⟩
theorem row57 : RowOk Tryz.prog 57 ⟨.func, 1, 8, .nilf⟩ := ⟨by kernel_rfl, by kernel_rfl, by kernel_rfl, by kernel_rfl⟩
theorem row58 : RowOk Tryz.prog 58 ⟨.func, 1, 8, .nilf⟩ := ⟨by kernel_rfl, by kernel_rfl, by kernel_rfl, by kernel_rfl⟩
theorem row59 : RowOk Tryz.prog 59 ⟨.func, 1, 8, .nilf⟩ := ⟨by kernel_rfl, by kernel_rfl, by kernel_rfl, by kernel_rfl⟩
theorem row60 : RowOk Tryz.prog 60 ⟨.func, 1, 8, .nilf⟩ := ⟨by kernel_rfl, by kernel_rfl, by kernel_rfl, by kernel_rfl⟩
theorem row61 : RowOk Tryz.prog 61 ⟨.func, 1, 8, .nilf⟩ := ⟨by kernel_rfl, by kernel_rfl, by kernel_rfl, by kernel_rfl⟩
theorem row63 : RowOk Tryz.prog 63 ⟨.func, 1, 8, .nilf⟩ := ⟨by kernel_rfl, by kernel_rfl, by kernel_rfl, by kernel_rfl⟩
theorem row64 : RowOk Tryz.prog 64 ⟨.func, 1, 8, .nilf⟩ := ⟨by kernel_rfl, by kernel_rfl, by kernel_rfl, by kernel_rfl⟩
theorem row65 : RowOk Tryz.prog 65 ⟨.func, 1, 8, .nilf⟩ := ⟨by kernel_rfl, by kernel_rfl, by kernel_rfl, by kernel_rfl⟩
theorem row66 : RowOk Tryz.prog 66 ⟨.func, 1, 8, .nilf⟩ := ⟨by kernel_rfl, by kernel_rfl, by kernel_rfl, by kernel_rfl⟩
theorem row67 : RowOk Tryz.prog 67 ⟨.func, 1, 8, .nilf⟩ := ⟨by kernel_rfl, by kernel_rfl, by kernel_rfl, by kernel_rfl⟩
theorem row68 : RowOk Tryz.prog 68 ⟨.func, 1, 8, .nilf⟩ := ⟨by kernel_rfl, by kernel_rfl, by kernel_rfl, by kernel_rfl⟩
theorem row69 : RowOk Tryz.prog 69 ⟨.func, 1, 8, .nilf⟩ := ⟨by kernel_rfl, by kernel_rfl, by kernel_rfl, by kernel_rfl⟩
theorem row70 : RowOk Tryz.prog 70 ⟨.sl 3, 1, 24, .sl true []⟩ := ⟨by kernel_rfl, by kernel_rfl, by kernel_rfl, by kernel_rfl⟩
theorem row71 : RowOk Tryz.prog 71 ⟨.func, 1, 8, .nilf⟩ := ⟨by kernel_rfl, by kernel_rfl, by kernel_rfl, by kernel_rfl⟩
theorem row72 : RowOk Tryz.prog 72 ⟨.ptr, 1, 8, .nilp⟩ := ⟨by kernel_rfl, by kernel_rfl, by kernel_rfl, by kernel_rfl⟩
theorem row73 : RowOk Tryz.prog 73 ⟨.sl 5, 1, 24, .sl true []⟩ := ⟨by kernel_rfl, by kernel_rfl, by kernel_rfl, by kernel_rfl⟩
theorem row74 : RowOk Tryz.prog 74 ⟨.struct [(0, 72), (1, 73)], 2, 32, .agg [.nilp, .sl true []]⟩ := ⟨by kernel_rfl, by kernel_rfl, by kernel_rfl, by kernel_rfl⟩
theorem row75 : RowOk Tryz.prog 75 ⟨.struct [(0, 72), (1, 73)], 2, 32, .agg [.nilp, .sl true []]⟩ := ⟨by kernel_rfl, by kernel_rfl, by kernel_rfl, by kernel_rfl⟩
theorem row76 : RowOk Tryz.prog 76 ⟨.struct [(0, 75)], 2, 32, .agg [.nilp, .sl true []]⟩ := ⟨by kernel_rfl, by kernel_rfl, by kernel_rfl, by kernel_rfl⟩
theorem row77 : RowOk Tryz.prog 77 ⟨.struct [(0, 75)], 2, 32, .agg [.nilp, .sl true []]⟩ := ⟨by kernel_rfl, by kernel_rfl, by kernel_rfl, by kernel_rfl⟩
theorem row78 : RowOk Tryz.prog 78 ⟨.func, 1, 8, .nilf⟩ := ⟨by kernel_rfl, by kernel_rfl, by kernel_rfl, by kernel_rfl⟩
theorem row79 : RowOk Tryz.prog 79 ⟨.func, 1, 8, .nilf⟩ := ⟨by kernel_rfl, by kernel_rfl, by kernel_rfl, by kernel_rfl⟩
theorem row80 : RowOk Tryz.prog 80 ⟨.func, 1, 8, .nilf⟩ := ⟨by kernel_rfl, by kernel_rfl, by kernel_rfl, by kernel_rfl⟩
theorem row81 : RowOk Tryz.prog 81 ⟨.struct [(0, 22), (1, 23), (2, 3), (3, 23), (4, 9), (5, 9), (6, 9)], 7, 96, .agg [.sl true [], .int .u64 0, .int .i64 0, .int .u64 0, .str [], .str [], .str []]⟩ := ⟨by kernel_rfl, by kernel_rfl, by kernel_rfl, by kernel_rfl⟩
theorem row82 : RowOk Tryz.prog 82 ⟨.struct [(0, 22), (1, 23), (2, 3), (3, 23), (4, 9), (5, 9), (6, 9)], 7, 96, .agg [.sl true [], .int .u64 0, .int .i64 0, .int .u64 0, .str [], .str [], .str []]⟩ := ⟨by kernel_rfl, by kernel_rfl, by kernel_rfl, by kernel_rfl⟩
theorem row83 : RowOk Tryz.prog 83 ⟨.ptr, 1, 8, .nilp⟩ := ⟨by kernel_rfl, by kernel_rfl, by kernel_rfl, by kernel_rfl⟩
theorem row84 : RowOk Tryz.prog 84 ⟨.func, 1, 8, .nilf⟩ := ⟨by kernel_rfl, by kernel_rfl, by kernel_rfl, by kernel_rfl⟩
theorem row85 : RowOk Tryz.prog 85 ⟨.func, 1, 8, .nilf⟩ := ⟨by kernel_rfl, by kernel_rfl, by kernel_rfl, by kernel_rfl⟩
theorem row86 : RowOk Tryz.prog 86 ⟨.sl 88, 1, 24, .sl true []⟩ := ⟨by kernel_rfl, by kernel_rfl, by kernel_rfl, by kernel_rfl⟩
theorem row87 : RowOk Tryz.prog 87 ⟨.struct [(0, 3), (1, 9), (2, 4), (3, 23), (4, 86), (5, 22), (6, 9), (7, 9)], 8, 120, .agg [.int .i64 0, .str [], .bool false, .int .u64 0, .sl true [], .sl true [], .str [], .str []]⟩ := ⟨by kernel_rfl, by kernel_rfl, by kernel_rfl, by kernel_rfl⟩
theorem row88 : RowOk Tryz.prog 88 ⟨.struct [(0, 3), (1, 9), (2, 4), (3, 23), (4, 86), (5, 22), (6, 9), (7, 9)], 8, 120, .agg [.int .i64 0, .str [], .bool false, .int .u64 0, .sl true [], .sl true [], .str [], .str []]⟩ := ⟨by kernel_rfl, by kernel_rfl, by kernel_rfl, by kernel_rfl⟩
theorem row89 : RowOk Tryz.prog 89 ⟨.struct [(0, 9), (1, 4), (2, 88), (10, 9)], 11, 160, .agg [.str [], .bool false, .int .i64 0, .str [], .bool false, .int .u64 0, .sl true [], .sl true [], .str [], .str [], .str []]⟩ := ⟨by kernel_rfl, by kernel_rfl, by kernel_rfl, by kernel_rfl⟩
theorem row90 : RowOk Tryz.prog 90 ⟨.struct [(0, 9), (1, 4), (2, 88), (10, 9)], 11, 160, .agg [.str [], .bool false, .int .i64 0, .str [], .bool false, .int .u64 0, .sl true [], .sl true [], .str [], .str [], .str []]⟩ := ⟨by kernel_rfl, by kernel_rfl, by kernel_rfl, by kernel_rfl⟩
theorem row91 : RowOk Tryz.prog 91 ⟨.func, 1, 8, .nilf⟩ := ⟨by kernel_rfl, by kernel_rfl, by kernel_rfl, by kernel_rfl⟩
theorem row92 : RowOk Tryz.prog 92 ⟨.func, 1, 8, .nilf⟩ := ⟨by kernel_rfl, by kernel_rfl, by kernel_rfl, by kernel_rfl⟩
theorem row93 : RowOk Tryz.prog 93 ⟨.func, 1, 8, .nilf⟩ := ⟨by kernel_rfl, by kernel_rfl, by kernel_rfl, by kernel_rfl⟩
theorem row94 : RowOk Tryz.prog 94 ⟨.func, 1, 8, .nilf⟩ := ⟨by kernel_rfl, by kernel_rfl, by kernel_rfl, by kernel_rfl⟩
theorem row95 : RowOk Tryz.prog 95 ⟨.func, 1, 8, .nilf⟩ := ⟨by kernel_rfl, by kernel_rfl, by kernel_rfl, by kernel_rfl⟩
theorem row96 : RowOk Tryz.prog 96 ⟨.func, 1, 8, .nilf⟩ := ⟨by kernel_rfl, by kernel_rfl, by kernel_rfl, by kernel_rfl⟩
theorem row97 : RowOk Tryz.prog 97 ⟨.func, 1, 8, .nilf⟩ := ⟨by kernel_rfl, by kernel_rfl, by kernel_rfl, by kernel_rfl⟩
theorem row98 : RowOk Tryz.prog 98 ⟨.func, 1, 8, .nilf⟩ := ⟨by kernel_rfl, by kernel_rfl, by kernel_rfl, by kernel_rfl⟩
theorem row99 : RowOk Tryz.prog 99 ⟨.func, 1, 8, .nilf⟩ := ⟨by kernel_rfl, by kernel_rfl, by kernel_rfl, by kernel_rfl⟩
theorem row100 : RowOk Tryz.prog 100 ⟨.func, 1, 8, .nilf⟩ := ⟨by kernel_rfl, by kernel_rfl, by kernel_rfl, by kernel_rfl⟩
theorem row101 : RowOk Tryz.prog 101 ⟨.func, 1, 8, .nilf⟩ := ⟨by kernel_rfl, by kernel_rfl, by kernel_rfl, by kernel_rfl⟩
theorem row102 : RowOk Tryz.prog 102 ⟨.func, 1, 8, .nilf⟩ := ⟨by kernel_rfl, by kernel_rfl, by kernel_rfl, by kernel_rfl⟩
theorem row103 : RowOk Tryz.prog 103 ⟨.ptr, 1, 8, .nilp⟩ := ⟨by kernel_rfl, by kernel_rfl, by kernel_rfl, by kernel_rfl⟩
theorem row104 : RowOk Tryz.prog 104 ⟨.func, 1, 8, .nilf⟩ := ⟨by kernel_rfl, by kernel_rfl, by kernel_rfl, by kernel_rfl⟩
theorem row105 : RowOk Tryz.prog 105 ⟨.func, 1, 8, .nilf⟩ := ⟨by kernel_rfl, by kernel_rfl, by kernel_rfl, by kernel_rfl⟩
theorem row106 : RowOk Tryz.prog 106 ⟨.ptr, 1, 8, .nilp⟩ := ⟨by kernel_rfl, by kernel_rfl, by kernel_rfl, by kernel_rfl⟩
theorem row107 : RowOk Tryz.prog 107 ⟨.func, 1, 8, .nilf⟩ := ⟨by kernel_rfl, by kernel_rfl, by kernel_rfl, by kernel_rfl⟩
theorem row108 : RowOk Tryz.prog 108 ⟨.func, 1, 8, .nilf⟩ := ⟨by kernel_rfl, by kernel_rfl, by kernel_rfl, by kernel_rfl⟩
theorem row109 : RowOk Tryz.prog 109 ⟨.func, 1, 8, .nilf⟩ := ⟨by kernel_rfl, by kernel_rfl, by kernel_rfl, by kernel_rfl⟩
theorem row110 : RowOk Tryz.prog 110 ⟨.func, 1, 8, .nilf⟩ := ⟨by kernel_rfl, by kernel_rfl, by kernel_rfl, by kernel_rfl⟩
theorem row111 : RowOk Tryz.prog 111 ⟨.func, 1, 8, .nilf⟩ := ⟨by kernel_rfl, by kernel_rfl, by kernel_rfl, by kernel_rfl⟩
theorem row112 : RowOk Tryz.prog 112 ⟨.func, 1, 8, .nilf⟩ := ⟨by kernel_rfl, by kernel_rfl, by kernel_rfl, by kernel_rfl⟩
theorem row113 : RowOk Tryz.prog 113 ⟨.func, 1, 8, .nilf⟩ := ⟨by kernel_rfl, by kernel_rfl, by kernel_rfl, by kernel_rfl⟩
theorem row114 : RowOk Tryz.prog 114 ⟨.func, 1, 8, .nilf⟩ := ⟨by kernel_rfl, by kernel_rfl, by kernel_rfl, by kernel_rfl⟩
theorem row115 : RowOk Tryz.prog 115 ⟨.sl 157, 1, 24, .sl true []⟩ := ⟨by kernel_rfl, by kernel_rfl, by kernel_rfl, by kernel_rfl⟩
theorem row116 : RowOk Tryz.prog 116 ⟨.struct [(0, 32), (1, 9), (2, 3), (3, 3), (4, 115)], 5, 72, .agg [.nili, .str [], .int .i64 0, .int .i64 0, .sl true []]⟩ := ⟨by kernel_rfl, by kernel_rfl, by kernel_rfl, by kernel_rfl⟩
theorem row117 : RowOk Tryz.prog 117 ⟨.struct [(0, 32), (1, 9), (2, 3), (3, 3), (4, 115)], 5, 72, .agg [.nili, .str [], .int .i64 0, .int .i64 0, .sl true []]⟩ := ⟨by kernel_rfl, by kernel_rfl, by kernel_rfl, by kernel_rfl⟩
theorem row118 : RowOk Tryz.prog 118 ⟨.sl 122, 1, 24, .sl true []⟩ := ⟨by kernel_rfl, by kernel_rfl, by kernel_rfl, by kernel_rfl⟩
theorem row120 : RowOk Tryz.prog 120 ⟨.func, 1, 8, .nilf⟩ := ⟨by kernel_rfl, by kernel_rfl, by kernel_rfl, by kernel_rfl⟩
theorem row121 : RowOk Tryz.prog 121 ⟨.struct [(0, 3), (1, 3), (2, 23), (3, 9), (4, 9)], 5, 56, .agg [.int .i64 0, .int .i64 0, .int .u64 0, .str [], .str []]⟩ := ⟨by kernel_rfl, by kernel_rfl, by kernel_rfl, by kernel_rfl⟩
theorem row122 : RowOk Tryz.prog 122 ⟨.struct [(0, 3), (1, 3), (2, 23), (3, 9), (4, 9)], 5, 56, .agg [.int .i64 0, .int .i64 0, .int .u64 0, .str [], .str []]⟩ := ⟨by kernel_rfl, by kernel_rfl, by kernel_rfl, by kernel_rfl⟩
theorem row123 : RowOk Tryz.prog 123 ⟨.func, 1, 8, .nilf⟩ := ⟨by kernel_rfl, by kernel_rfl, by kernel_rfl, by kernel_rfl⟩
theorem row125 : RowOk Tryz.prog 125 ⟨.func, 1, 8, .nilf⟩ := ⟨by kernel_rfl, by kernel_rfl, by kernel_rfl, by kernel_rfl⟩
theorem row127 : RowOk Tryz.prog 127 ⟨.func, 1, 8, .nilf⟩ := ⟨by kernel_rfl, by kernel_rfl, by kernel_rfl, by kernel_rfl⟩
theorem row129 : RowOk Tryz.prog 129 ⟨.func, 1, 8, .nilf⟩ := ⟨by kernel_rfl, by kernel_rfl, by kernel_rfl, by kernel_rfl⟩
theorem row131 : RowOk Tryz.prog 131 ⟨.func, 1, 8, .nilf⟩ := ⟨by kernel_rfl, by kernel_rfl, by kernel_rfl, by kernel_rfl⟩
theorem row132 : RowOk Tryz.prog 132 ⟨.func, 1, 8, .nilf⟩ := ⟨by kernel_rfl, by kernel_rfl, by kernel_rfl, by kernel_rfl⟩
theorem row133 : RowOk Tryz.prog 133 ⟨.func, 1, 8, .nilf⟩ := ⟨by kernel_rfl, by kernel_rfl, by kernel_rfl, by kernel_rfl⟩
theorem row134 : RowOk Tryz.prog 134 ⟨.func, 1, 8, .nilf⟩ := ⟨by kernel_rfl, by kernel_rfl, by kernel_rfl, by kernel_rfl⟩
theorem row135 : RowOk Tryz.prog 135 ⟨.func, 1, 8, .nilf⟩ := ⟨by kernel_rfl, by kernel_rfl, by kernel_rfl, by kernel_rfl⟩
theorem row136 : RowOk Tryz.prog 136 ⟨.func, 1, 8, .nilf⟩ := ⟨by kernel_rfl, by kernel_rfl, by kernel_rfl, by kernel_rfl⟩
theorem row137 : RowOk Tryz.prog 137 ⟨.func, 1, 8, .nilf⟩ := ⟨by kernel_rfl, by kernel_rfl, by kernel_rfl, by kernel_rfl⟩
theorem row138 : RowOk Tryz.prog 138 ⟨.func, 1, 8, .nilf⟩ := ⟨by kernel_rfl, by kernel_rfl, by kernel_rfl, by kernel_rfl⟩
theorem row139 : RowOk Tryz.prog 139 ⟨.func, 1, 8, .nilf⟩ := ⟨by kernel_rfl, by kernel_rfl, by kernel_rfl, by kernel_rfl⟩
theorem row140 : RowOk Tryz.prog 140 ⟨.func, 1, 8, .nilf⟩ := ⟨by kernel_rfl, by kernel_rfl, by kernel_rfl, by kernel_rfl⟩
theorem row141 : RowOk Tryz.prog 141 ⟨.func, 1, 8, .nilf⟩ := ⟨by kernel_rfl, by kernel_rfl, by kernel_rfl, by kernel_rfl⟩
theorem row142 : RowOk Tryz.prog 142 ⟨.int .u64, 1, 8, .int .u64 0⟩ := ⟨by kernel_rfl, by kernel_rfl, by kernel_rfl, by kernel_rfl⟩
theorem row143 : RowOk Tryz.prog 143 ⟨.func, 1, 8, .nilf⟩ := ⟨by kernel_rfl, by kernel_rfl, by kernel_rfl, by kernel_rfl⟩
theorem row145 : RowOk Tryz.prog 145 ⟨.func, 1, 8, .nilf⟩ := ⟨by kernel_rfl, by kernel_rfl, by kernel_rfl, by kernel_rfl⟩
theorem row146 : RowOk Tryz.prog 146 ⟨.func, 1, 8, .nilf⟩ := ⟨by kernel_rfl, by kernel_rfl, by kernel_rfl, by kernel_rfl⟩
theorem row147 : RowOk Tryz.prog 147 ⟨.func, 1, 8, .nilf⟩ := ⟨by kernel_rfl, by kernel_rfl, by kernel_rfl, by kernel_rfl⟩
theorem row148 : RowOk Tryz.prog 148 ⟨.func, 1, 8, .nilf⟩ := ⟨by kernel_rfl, by kernel_rfl, by kernel_rfl, by kernel_rfl⟩
theorem row149 : RowOk Tryz.prog 149 ⟨.func, 1, 8, .nilf⟩ := ⟨by kernel_rfl, by kernel_rfl, by kernel_rfl, by kernel_rfl⟩
theorem row151 : RowOk Tryz.prog 151 ⟨.func, 1, 8, .nilf⟩ := ⟨by kernel_rfl, by kernel_rfl, by kernel_rfl, by kernel_rfl⟩
theorem row152 : RowOk Tryz.prog 152 ⟨.func, 1, 8, .nilf⟩ := ⟨by kernel_rfl, by kernel_rfl, by kernel_rfl, by kernel_rfl⟩
theorem row153 : RowOk Tryz.prog 153 ⟨.func, 1, 8, .nilf⟩ := ⟨by kernel_rfl, by kernel_rfl, by kernel_rfl, by kernel_rfl⟩
theorem row154 : RowOk Tryz.prog 154 ⟨.func, 1, 8, .nilf⟩ := ⟨by kernel_rfl, by kernel_rfl, by kernel_rfl, by kernel_rfl⟩
theorem row156 : RowOk Tryz.prog 156 ⟨.func, 1, 8, .nilf⟩ := ⟨by kernel_rfl, by kernel_rfl, by kernel_rfl, by kernel_rfl⟩
theorem row157 : RowOk Tryz.prog 157 ⟨.struct [(0, 3), (1, 3), (2, 23), (3, 9), (4, 9)], 5, 56, .agg [.int .i64 0, .int .i64 0, .int .u64 0, .str [], .str []]⟩ := ⟨by kernel_rfl, by kernel_rfl, by kernel_rfl, by kernel_rfl⟩
theorem row158 : RowOk Tryz.prog 158 ⟨.func, 1, 8, .nilf⟩ := ⟨by kernel_rfl, by kernel_rfl, by kernel_rfl, by kernel_rfl⟩
theorem row159 : RowOk Tryz.prog 159 ⟨.func, 1, 8, .nilf⟩ := ⟨by kernel_rfl, by kernel_rfl, by kernel_rfl, by kernel_rfl⟩
theorem row164 : RowOk Tryz.prog 164 ⟨.func, 1, 8, .nilf⟩ := ⟨by kernel_rfl, by kernel_rfl, by kernel_rfl, by kernel_rfl⟩
theorem row165 : RowOk Tryz.prog 165 ⟨.iface, 1, 16, .nili⟩ := ⟨by kernel_rfl, by kernel_rfl, by kernel_rfl, by kernel_rfl⟩
theorem row167 : RowOk Tryz.prog 167 ⟨.func, 1, 8, .nilf⟩ := ⟨by kernel_rfl, by kernel_rfl, by kernel_rfl, by kernel_rfl⟩
theorem row169 : RowOk Tryz.prog 169 ⟨.func, 1, 8, .nilf⟩ := ⟨by kernel_rfl, by kernel_rfl, by kernel_rfl, by kernel_rfl⟩
theorem row170 : RowOk Tryz.prog 170 ⟨.func, 1, 8, .nilf⟩ := ⟨by kernel_rfl, by kernel_rfl, by kernel_rfl, by kernel_rfl⟩
theorem row171 : RowOk Tryz.prog 171 ⟨.func, 1, 8, .nilf⟩ := ⟨by kernel_rfl, by kernel_rfl, by kernel_rfl, by kernel_rfl⟩
theorem row172 : RowOk Tryz.prog 172 ⟨.func, 1, 8, .nilf⟩ := ⟨by kernel_rfl, by kernel_rfl, by kernel_rfl, by kernel_rfl⟩
theorem row173 : RowOk Tryz.prog 173 ⟨.func, 1, 8, .nilf⟩ := ⟨by kernel_rfl, by kernel_rfl, by kernel_rfl, by kernel_rfl⟩
theorem row174 : RowOk Tryz.prog 174 ⟨.func, 1, 8, .nilf⟩ := ⟨by kernel_rfl, by kernel_rfl, by kernel_rfl, by kernel_rfl⟩
theorem row176 : RowOk Tryz.prog 176 ⟨.func, 1, 8, .nilf⟩ := ⟨by kernel_rfl, by kernel_rfl, by kernel_rfl, by kernel_rfl⟩
theorem row177 : RowOk Tryz.prog 177 ⟨.func, 1, 8, .nilf⟩ := ⟨by kernel_rfl, by kernel_rfl, by kernel_rfl, by kernel_rfl⟩
theorem row178 : RowOk Tryz.prog 178 ⟨.func, 1, 8, .nilf⟩ := ⟨by kernel_rfl, by kernel_rfl, by kernel_rfl, by kernel_rfl⟩
theorem row179 : RowOk Tryz.prog 179 ⟨.func, 1, 8, .nilf⟩ := ⟨by kernel_rfl, by kernel_rfl, by kernel_rfl, by kernel_rfl⟩
theorem row180 : RowOk Tryz.prog 180 ⟨.func, 1, 8, .nilf⟩ := ⟨by kernel_rfl, by kernel_rfl, by kernel_rfl, by kernel_rfl⟩
theorem row181 : RowOk Tryz.prog 181 ⟨.func, 1, 8, .nilf⟩ := ⟨by kernel_rfl, by kernel_rfl, by kernel_rfl, by kernel_rfl⟩
theorem row182 : RowOk Tryz.prog 182 ⟨.func, 1, 8, .nilf⟩ := ⟨by kernel_rfl, by kernel_rfl, by kernel_rfl, by kernel_rfl⟩
theorem row183 : RowOk Tryz.prog 183 ⟨.func, 1, 8, .nilf⟩ := ⟨by kernel_rfl, by kernel_rfl, by kernel_rfl, by kernel_rfl⟩
theorem row184 : RowOk Tryz.prog 184 ⟨.func, 1, 8, .nilf⟩ := ⟨by kernel_rfl, by kernel_rfl, by kernel_rfl, by kernel_rfl⟩
theorem row185 : RowOk Tryz.prog 185 ⟨.ptr, 1, 8, .nilp⟩ := ⟨by kernel_rfl, by kernel_rfl, by kernel_rfl, by kernel_rfl⟩
theorem row186 : RowOk Tryz.prog 186 ⟨.ptr, 1, 8, .nilp⟩ := ⟨by kernel_rfl, by kernel_rfl, by kernel_rfl, by kernel_rfl⟩
theorem row187 : RowOk Tryz.prog 187 ⟨.struct [(0, 3), (1, 32)], 2, 24, .agg [.int .i64 0, .nili]⟩ := ⟨by kernel_rfl, by kernel_rfl, by kernel_rfl, by kernel_rfl⟩
theorem row188 : RowOk Tryz.prog 188 ⟨.struct [(0, 3), (1, 32)], 2, 24, .agg [.int .i64 0, .nili]⟩ := ⟨by kernel_rfl, by kernel_rfl, by kernel_rfl, by kernel_rfl⟩
theorem row189 : RowOk Tryz.prog 189 ⟨.func, 1, 8, .nilf⟩ := ⟨by kernel_rfl, by kernel_rfl, by kernel_rfl, by kernel_rfl⟩
theorem row190 : RowOk Tryz.prog 190 ⟨.func, 1, 8, .nilf⟩ := ⟨by kernel_rfl, by kernel_rfl, by kernel_rfl, by kernel_rfl⟩
theorem row191 : RowOk Tryz.prog 191 ⟨.sl 42, 1, 24, .sl true []⟩ := ⟨by kernel_rfl, by kernel_rfl, by kernel_rfl, by kernel_rfl⟩
theorem row192 : RowOk Tryz.prog 192 ⟨.func, 1, 8, .nilf⟩ := ⟨by kernel_rfl, by kernel_rfl, by kernel_rfl, by kernel_rfl⟩
theorem row193 : RowOk Tryz.prog 193 ⟨.func, 1, 8, .nilf⟩ := ⟨by kernel_rfl, by kernel_rfl, by kernel_rfl, by kernel_rfl⟩
theorem row194 : RowOk Tryz.prog 194 ⟨.sl 9, 1, 24, .sl true []⟩ := ⟨by kernel_rfl, by kernel_rfl, by kernel_rfl, by kernel_rfl⟩
theorem row195 : RowOk Tryz.prog 195 ⟨.struct [(0, 3), (1, 23), (2, 9), (3, 194)], 4, 56, .agg [.int .i64 0, .int .u64 0, .str [], .sl true []]⟩ := ⟨by kernel_rfl, by kernel_rfl, by kernel_rfl, by kernel_rfl⟩
theorem row196 : RowOk Tryz.prog 196 ⟨.struct [(0, 3), (1, 23), (2, 9), (3, 194)], 4, 56, .agg [.int .i64 0, .int .u64 0, .str [], .sl true []]⟩ := ⟨by kernel_rfl, by kernel_rfl, by kernel_rfl, by kernel_rfl⟩
theorem row197 : RowOk Tryz.prog 197 ⟨.func, 1, 8, .nilf⟩ := ⟨by kernel_rfl, by kernel_rfl, by kernel_rfl, by kernel_rfl⟩
theorem row198 : RowOk Tryz.prog 198 ⟨.func, 1, 8, .nilf⟩ := ⟨by kernel_rfl, by kernel_rfl, by kernel_rfl, by kernel_rfl⟩
theorem row199 : RowOk Tryz.prog 199 ⟨.func, 1, 8, .nilf⟩ := ⟨by kernel_rfl, by kernel_rfl, by kernel_rfl, by kernel_rfl⟩
theorem row200 : RowOk Tryz.prog 200 ⟨.func, 1, 8, .nilf⟩ := ⟨by kernel_rfl, by kernel_rfl, by kernel_rfl, by kernel_rfl⟩
theorem row201 : RowOk Tryz.prog 201 ⟨.ptr, 1, 8, .nilp⟩ := ⟨by kernel_rfl, by kernel_rfl, by kernel_rfl, by kernel_rfl⟩
theorem row202 : RowOk Tryz.prog 202 ⟨.func, 1, 8, .nilf⟩ := ⟨by kernel_rfl, by kernel_rfl, by kernel_rfl, by kernel_rfl⟩
theorem row203 : RowOk Tryz.prog 203 ⟨.ptr, 1, 8, .nilp⟩ := ⟨by kernel_rfl, by kernel_rfl, by kernel_rfl, by kernel_rfl⟩
theorem row204 : RowOk Tryz.prog 204 ⟨.struct [(0, 9), (1, 3), (2, 32), (3, 3)], 4, 48, .agg [.str [], .int .i64 0, .nili, .int .i64 0]⟩ := ⟨by kernel_rfl, by kernel_rfl, by kernel_rfl, by kernel_rfl⟩
theorem row205 : RowOk Tryz.prog 205 ⟨.struct [(0, 9), (1, 3), (2, 32), (3, 3)], 4, 48, .agg [.str [], .int .i64 0, .nili, .int .i64 0]⟩ := ⟨by kernel_rfl, by kernel_rfl, by kernel_rfl, by kernel_rfl⟩
theorem row206 : RowOk Tryz.prog 206 ⟨.func, 1, 8, .nilf⟩ := ⟨by kernel_rfl, by kernel_rfl, by kernel_rfl, by kernel_rfl⟩
theorem row207 : RowOk Tryz.prog 207 ⟨.struct [(0, 17)], 1, 8, .agg [.nilp]⟩ := ⟨by kernel_rfl, by kernel_rfl, by kernel_rfl, by kernel_rfl⟩
theorem row210 : RowOk Tryz.prog 210 ⟨.func, 1, 8, .nilf⟩ := ⟨by kernel_rfl, by kernel_rfl, by kernel_rfl, by kernel_rfl⟩
theorem row211 : RowOk Tryz.prog 211 ⟨.func, 1, 8, .nilf⟩ := ⟨by kernel_rfl, by kernel_rfl, by kernel_rfl, by kernel_rfl⟩
theorem row212 : RowOk Tryz.prog 212 ⟨.func, 1, 8, .nilf⟩ := ⟨by kernel_rfl, by kernel_rfl, by kernel_rfl, by kernel_rfl⟩
theorem row213 : RowOk Tryz.prog 213 ⟨.iface, 1, 16, .nili⟩ := ⟨by kernel_rfl, by kernel_rfl, by kernel_rfl, by kernel_rfl⟩
theorem row215 : RowOk Tryz.prog 215 ⟨.func, 1, 8, .nilf⟩ := ⟨by kernel_rfl, by kernel_rfl, by kernel_rfl, by kernel_rfl⟩
theorem row216 : RowOk Tryz.prog 216 ⟨.iface, 1, 16, .nili⟩ := ⟨by kernel_rfl, by kernel_rfl, by kernel_rfl, by kernel_rfl⟩
theorem row217 : RowOk Tryz.prog 217 ⟨.func, 1, 8, .nilf⟩ := ⟨by kernel_rfl, by kernel_rfl, by kernel_rfl, by kernel_rfl⟩
theorem row218 : RowOk Tryz.prog 218 ⟨.iface, 1, 16, .nili⟩ := ⟨by kernel_rfl, by kernel_rfl, by kernel_rfl, by kernel_rfl⟩
theorem row219 : RowOk Tryz.prog 219 ⟨.sl 32, 1, 24, .sl true []⟩ := ⟨by kernel_rfl, by kernel_rfl, by kernel_rfl, by kernel_rfl⟩
theorem row220 : RowOk Tryz.prog 220 ⟨.func, 1, 8, .nilf⟩ := ⟨by kernel_rfl, by kernel_rfl, by kernel_rfl, by kernel_rfl⟩
theorem row221 : RowOk Tryz.prog 221 ⟨.func, 1, 8, .nilf⟩ := ⟨by kernel_rfl, by kernel_rfl, by kernel_rfl, by kernel_rfl⟩
theorem row223 : RowOk Tryz.prog 223 ⟨.func, 1, 8, .nilf⟩ := ⟨by kernel_rfl, by kernel_rfl, by kernel_rfl, by kernel_rfl⟩
theorem row224 : RowOk Tryz.prog 224 ⟨.func, 1, 8, .nilf⟩ := ⟨by kernel_rfl, by kernel_rfl, by kernel_rfl, by kernel_rfl⟩
theorem row225 : RowOk Tryz.prog 225 ⟨.struct [(0, 86), (1, 9)], 2, 40, .agg [.sl true [], .str []]⟩ := ⟨by kernel_rfl, by kernel_rfl, by kernel_rfl, by kernel_rfl⟩
theorem row226 : RowOk Tryz.prog 226 ⟨.struct [(0, 86), (1, 9)], 2, 40, .agg [.sl true [], .str []]⟩ := ⟨by kernel_rfl, by kernel_rfl, by kernel_rfl, by kernel_rfl⟩
theorem row227 : RowOk Tryz.prog 227 ⟨.func, 1, 8, .nilf⟩ := ⟨by kernel_rfl, by kernel_rfl, by kernel_rfl, by kernel_rfl⟩
theorem row228 : RowOk Tryz.prog 228 ⟨.func, 1, 8, .nilf⟩ := ⟨by kernel_rfl, by kernel_rfl, by kernel_rfl, by kernel_rfl⟩
theorem row229 : RowOk Tryz.prog 229 ⟨.func, 1, 8, .nilf⟩ := ⟨by kernel_rfl, by kernel_rfl, by kernel_rfl, by kernel_rfl⟩
theorem row230 : RowOk Tryz.prog 230 ⟨.struct [(0, 22), (1, 9)], 2, 40, .agg [.sl true [], .str []]⟩ := ⟨by kernel_rfl, by kernel_rfl, by kernel_rfl, by kernel_rfl⟩
theorem row231 : RowOk Tryz.prog 231 ⟨.struct [(0, 22), (1, 9)], 2, 40, .agg [.sl true [], .str []]⟩ := ⟨by kernel_rfl, by kernel_rfl, by kernel_rfl, by kernel_rfl⟩
theorem row232 : RowOk Tryz.prog 232 ⟨.func, 1, 8, .nilf⟩ := ⟨by kernel_rfl, by kernel_rfl, by kernel_rfl, by kernel_rfl⟩
theorem row233 : RowOk Tryz.prog 233 ⟨.func, 1, 8, .nilf⟩ := ⟨by kernel_rfl, by kernel_rfl, by kernel_rfl, by kernel_rfl⟩
theorem row234 : RowOk Tryz.prog 234 ⟨.func, 1, 8, .nilf⟩ := ⟨by kernel_rfl, by kernel_rfl, by kernel_rfl, by kernel_rfl⟩
theorem row238 : RowOk Tryz.prog 238 ⟨.func, 1, 8, .nilf⟩ := ⟨by kernel_rfl, by kernel_rfl, by kernel_rfl, by kernel_rfl⟩
theorem row239 : RowOk Tryz.prog 239 ⟨.func, 1, 8, .nilf⟩ := ⟨by kernel_rfl, by kernel_rfl, by kernel_rfl, by kernel_rfl⟩
theorem row240 : RowOk Tryz.prog 240 ⟨.func, 1, 8, .nilf⟩ := ⟨by kernel_rfl, by kernel_rfl, by kernel_rfl, by kernel_rfl⟩
theorem row241 : RowOk Tryz.prog 241 ⟨.func, 1, 8, .nilf⟩ := ⟨by kernel_rfl, by kernel_rfl, by kernel_rfl, by kernel_rfl⟩
theorem row242 : RowOk Tryz.prog 242 ⟨.func, 1, 8, .nilf⟩ := ⟨by kernel_rfl, by kernel_rfl, by kernel_rfl, by kernel_rfl⟩
theorem row243 : RowOk Tryz.prog 243 ⟨.func, 1, 8, .nilf⟩ := ⟨by kernel_rfl, by kernel_rfl, by kernel_rfl, by kernel_rfl⟩
theorem row244 : RowOk Tryz.prog 244 ⟨.func, 1, 8, .nilf⟩ := ⟨by kernel_rfl, by kernel_rfl, by kernel_rfl, by kernel_rfl⟩
theorem row245 : RowOk Tryz.prog 245 ⟨.func, 1, 8, .nilf⟩ := ⟨by kernel_rfl, by kernel_rfl, by kernel_rfl, by kernel_rfl⟩
theorem row246 : RowOk Tryz.prog 246 ⟨.func, 1, 8, .nilf⟩ := ⟨by kernel_rfl, by kernel_rfl, by kernel_rfl, by kernel_rfl⟩
theorem row247 : RowOk Tryz.prog 247 ⟨.func, 1, 8, .nilf⟩ := ⟨by kernel_rfl, by kernel_rfl, by kernel_rfl, by kernel_rfl⟩
theorem row248 : RowOk Tryz.prog 248 ⟨.func, 1, 8, .nilf⟩ := ⟨by kernel_rfl, by kernel_rfl, by kernel_rfl, by kernel_rfl⟩
theorem row250 : RowOk Tryz.prog 250 ⟨.func, 1, 8, .nilf⟩ := ⟨by kernel_rfl, by kernel_rfl, by kernel_rfl, by kernel_rfl⟩
theorem row251 : RowOk Tryz.prog 251 ⟨.func, 1, 8, .nilf⟩ := ⟨by kernel_rfl, by kernel_rfl, by kernel_rfl, by kernel_rfl⟩
theorem row252 : RowOk Tryz.prog 252 ⟨.ptr, 1, 8, .nilp⟩ := ⟨by kernel_rfl, by kernel_rfl, by kernel_rfl, by kernel_rfl⟩
theorem row253 : RowOk Tryz.prog 253 ⟨.func, 1, 8, .nilf⟩ := ⟨by kernel_rfl, by kernel_rfl, by kernel_rfl, by kernel_rfl⟩
theorem row254 : RowOk Tryz.prog 254 ⟨.ptr, 1, 8, .nilp⟩ := ⟨by kernel_rfl, by kernel_rfl, by kernel_rfl, by kernel_rfl⟩
theorem row255 : RowOk Tryz.prog 255 ⟨.struct [(0, 3), (1, 32)], 2, 24, .agg [.int .i64 0, .nili]⟩ := ⟨by kernel_rfl, by kernel_rfl, by kernel_rfl, by kernel_rfl⟩
theorem row256 : RowOk Tryz.prog 256 ⟨.struct [(0, 3), (1, 32)], 2, 24, .agg [.int .i64 0, .nili]⟩ := ⟨by kernel_rfl, by kernel_rfl, by kernel_rfl, by kernel_rfl⟩
theorem row257 : RowOk Tryz.prog 257 ⟨.func, 1, 8, .nilf⟩ := ⟨by kernel_rfl, by kernel_rfl, by kernel_rfl, by kernel_rfl⟩
theorem row259 : RowOk Tryz.prog 259 ⟨.func, 1, 8, .nilf⟩ := ⟨by kernel_rfl, by kernel_rfl, by kernel_rfl, by kernel_rfl⟩
theorem row260 : RowOk Tryz.prog 260 ⟨.func, 1, 8, .nilf⟩ := ⟨by kernel_rfl, by kernel_rfl, by kernel_rfl, by kernel_rfl⟩
theorem row261 : RowOk Tryz.prog 261 ⟨.func, 1, 8, .nilf⟩ := ⟨by kernel_rfl, by kernel_rfl, by kernel_rfl, by kernel_rfl⟩
theorem row262 : RowOk Tryz.prog 262 ⟨.func, 1, 8, .nilf⟩ := ⟨by kernel_rfl, by kernel_rfl, by kernel_rfl, by kernel_rfl⟩
theorem row264 : RowOk Tryz.prog 264 ⟨.func, 1, 8, .nilf⟩ := ⟨by kernel_rfl, by kernel_rfl, by kernel_rfl, by kernel_rfl⟩
theorem row265 : RowOk Tryz.prog 265 ⟨.func, 1, 8, .nilf⟩ := ⟨by kernel_rfl, by kernel_rfl, by kernel_rfl, by kernel_rfl⟩
theorem row266 : RowOk Tryz.prog 266 ⟨.func, 1, 8, .nilf⟩ := ⟨by kernel_rfl, by kernel_rfl, by kernel_rfl, by kernel_rfl⟩
theorem row267 : RowOk Tryz.prog 267 ⟨.func, 1, 8, .nilf⟩ := ⟨by kernel_rfl, by kernel_rfl, by kernel_rfl, by kernel_rfl⟩
theorem row268 : RowOk Tryz.prog 268 ⟨.func, 1, 8, .nilf⟩ := ⟨by kernel_rfl, by kernel_rfl, by kernel_rfl, by kernel_rfl⟩
theorem row272 : RowOk Tryz.prog 272 ⟨.func, 1, 8, .nilf⟩ := ⟨by kernel_rfl, by kernel_rfl, by kernel_rfl, by kernel_rfl⟩
theorem row273 : RowOk Tryz.prog 273 ⟨.func, 1, 8, .nilf⟩ := ⟨by kernel_rfl, by kernel_rfl, by kernel_rfl, by kernel_rfl⟩
theorem row274 : RowOk Tryz.prog 274 ⟨.func, 1, 8, .nilf⟩ := ⟨by kernel_rfl, by kernel_rfl, by kernel_rfl, by kernel_rfl⟩
theorem row275 : RowOk Tryz.prog 275 ⟨.func, 1, 8, .nilf⟩ := ⟨by kernel_rfl, by kernel_rfl, by kernel_rfl, by kernel_rfl⟩
theorem row276 : RowOk Tryz.prog 276 ⟨.func, 1, 8, .nilf⟩ := ⟨by kernel_rfl, by kernel_rfl, by kernel_rfl, by kernel_rfl⟩
theorem row277 : RowOk Tryz.prog 277 ⟨.func, 1, 8, .nilf⟩ := ⟨by kernel_rfl, by kernel_rfl, by kernel_rfl, by kernel_rfl⟩
theorem row278 : RowOk Tryz.prog 278 ⟨.struct [(0, 17), (1, 17), (2, 17), (3, 9)], 4, 40, .agg [.nilp, .nilp, .nilp, .str []]⟩ := ⟨by kernel_rfl, by kernel_rfl, by kernel_rfl, by kernel_rfl⟩
theorem row283 : RowOk Tryz.prog 283 ⟨.func, 1, 8, .nilf⟩ := ⟨by kernel_rfl, by kernel_rfl, by kernel_rfl, by kernel_rfl⟩
theorem row284 : RowOk Tryz.prog 284 ⟨.func, 1, 8, .nilf⟩ := ⟨by kernel_rfl, by kernel_rfl, by kernel_rfl, by kernel_rfl⟩
theorem row286 : RowOk Tryz.prog 286 ⟨.func, 1, 8, .nilf⟩ := ⟨by kernel_rfl, by kernel_rfl, by kernel_rfl, by kernel_rfl⟩
theorem row289 : RowOk Tryz.prog 289 ⟨.struct [(0, 12), (1, 12), (2, 25), (3, 285), (4, 5), (5, 5), (6, 168), (7, 286), (8, 201), (9, 287), (10, 288)], 11, 48, .agg [.int .u64 0, .int .u64 0, .int .u32 0, .int .u8 0, .int .u8 0, .int .u8 0, .int .u8 0, .nilf, .nilp, .int .i32 0, .int .i32 0]⟩ := ⟨by kernel_rfl, by kernel_rfl, by kernel_rfl, by kernel_rfl⟩
theorem row291 : RowOk Tryz.prog 291 ⟨.func, 1, 8, .nilf⟩ := ⟨by kernel_rfl, by kernel_rfl, by kernel_rfl, by kernel_rfl⟩
theorem row292 : RowOk Tryz.prog 292 ⟨.func, 1, 8, .nilf⟩ := ⟨by kernel_rfl, by kernel_rfl, by kernel_rfl, by kernel_rfl⟩
theorem row293 : RowOk Tryz.prog 293 ⟨.struct [(0, 9), (1, 168)], 2, 24, .agg [.str [], .int .u8 0]⟩ := ⟨by kernel_rfl, by kernel_rfl, by kernel_rfl, by kernel_rfl⟩
theorem row296 : RowOk Tryz.prog 296 ⟨.func, 1, 8, .nilf⟩ := ⟨by kernel_rfl, by kernel_rfl, by kernel_rfl, by kernel_rfl⟩
theorem row297 : RowOk Tryz.prog 297 ⟨.int .u16, 1, 2, .int .u16 0⟩ := ⟨by kernel_rfl, by kernel_rfl, by kernel_rfl, by kernel_rfl⟩
theorem row298 : RowOk Tryz.prog 298 ⟨.struct [(0, 287), (1, 297), (2, 297), (3, 25), (4, 25)], 5, 16, .agg [.int .i32 0, .int .u16 0, .int .u16 0, .int .u32 0, .int .u32 0]⟩ := ⟨by kernel_rfl, by kernel_rfl, by kernel_rfl, by kernel_rfl⟩
theorem row300 : RowOk Tryz.prog 300 ⟨.sl 303, 1, 24, .sl true []⟩ := ⟨by kernel_rfl, by kernel_rfl, by kernel_rfl, by kernel_rfl⟩
theorem row302 : RowOk Tryz.prog 302 ⟨.struct [(0, 287), (1, 288), (2, 301), (3, 301)], 4, 16, .agg [.int .i32 0, .int .i32 0, .int .i32 0, .int .i32 0]⟩ := ⟨by kernel_rfl, by kernel_rfl, by kernel_rfl, by kernel_rfl⟩
theorem row304 : RowOk Tryz.prog 304 ⟨.ptr, 1, 8, .nilp⟩ := ⟨by kernel_rfl, by kernel_rfl, by kernel_rfl, by kernel_rfl⟩
theorem rows_ok : AllRows Tryz.prog rows := ⟨row1, row2, row3, row4, row5, row7, row9, row12, row13, row18, row20, row21, row22, row23, row24, row25, row26, row27, row28, row29, row30, row31, row32, row34, row35, row36, row37, row38, row39, row40, row41, row42, row43, row44, row46, row47, row48, row50, row51, row52, row53, row54, row55, row56, row57, row58, row59, row60, row61, row63, row64, row65, row66, row67, row68, row69, row70, row71, row72, row73, row74, row75, row76, row77, row78, row79, row80, row81, row82, row83, row84, row85, row86, row87, row88, row89, row90, row91, row92, row93, row94, row95, row96, row97, row98, row99, row100, row101, row102, row103, row104, row105, row106, row107, row108, row109, row110, row111, row112, row113, row114, row115, row116, row117, row118, row120, row121, row122, row123, row125, row127, row129, row131, row132, row133, row134, row135, row136, row137, row138, row139, row140, row141, row142, row143, row145, row146, row147, row148, row149, row151, row152, row153, row154, row156, row157, row158, row159, row164, row165, row167, row169, row170, row171, row172, row173, row174, row176, row177, row178, row179, row180, row181, row182, row183, row184, row185, row186, row187, row188, row189, row190, row191, row192, row193, row194, row195, row196, row197, row198, row199, row200, row201, row202, row203, row204, row205, row206, row207, row210, row211, row212, row213, row215, row216, row217, row218, row219, row220, row221, row223, row224, row225, row226, row227, row228, row229, row230, row231, row232, row233, row234, row238, row239, row240, row241, row242, row243, row244, row245, row246, row247, row248, row250, row251, row252, row253, row254, row255, row256, row257, row259, row260, row261, row262, row264, row265, row266, row267, row268, row272, row273, row274, row275, row276, row277, row278, row283, row284, row286, row289, row291, row292, row293, row296, row297, row298, row300, row302, row304, trivial⟩
noncomputable def cx (base : Fr) : Ctx := { P := Tryz.prog, tab := look rows, base := base, ok := fun t i h => look_ok rows_ok t i h, mixed := by kernel_rfl }
end Go.Proofs.YthogjpjcidfoaaaGreatDoor
