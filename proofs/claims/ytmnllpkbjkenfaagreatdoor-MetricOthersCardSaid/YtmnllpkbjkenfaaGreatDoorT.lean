/- The types of the program, as a table; the context of the abstract semantics. Printed by table.py. -/
import Derived.Test.YtmnllpkbjkenfaaGreatDoorProg
import Derived.Test.YtmnllpkbjkenfaaGreatDoorAb
import Derived.KernelRfl
set_option maxRecDepth 100000
namespace Go.Proofs.YtmnllpkbjkenfaaGreatDoor
open Go Go.Abs
def look : List (Nat × Ti) → Nat → Option Ti
 | [], _ => none
 | (k, i) :: r, t => bif Nat.beq k t then some i else look r t
def rows : List (Nat × Ti) := [
 (1, ⟨.func, 1, 8, .nilf⟩),
 (2, ⟨.int .i64, 1, 8, .int .i64 0⟩),
 (3, ⟨.int .i64, 1, 8, .int .i64 0⟩),
 (4, ⟨.bool, 1, 1, .bool false⟩),
 (5, ⟨.int .u8, 1, 1, .int .u8 0⟩),
 (7, ⟨.struct [(0, 2), (1, 3), (2, 4), (3, 6)], 4, 24, .agg [.int .i64 0, .int .i64 0, .bool false, .int .u8 0]⟩),
 (9, ⟨.str, 1, 16, .str []⟩),
 (12, ⟨.int .u64, 1, 8, .int .u64 0⟩),
 (13, ⟨.struct [(0, 9), (1, 12)], 2, 24, .agg [.str [], .int .u64 0]⟩),
 (18, ⟨.struct [(0, 17)], 1, 8, .agg [.nilp]⟩),
 (20, ⟨.iface, 1, 16, .nili⟩),
 (21, ⟨.int .i32, 1, 4, .int .i32 0⟩),
 (22, ⟨.func, 1, 8, .nilf⟩),
 (23, ⟨.sl 81, 1, 24, .sl true []⟩),
 (24, ⟨.sl 87, 1, 24, .sl true []⟩),
 (25, ⟨.sl 92, 1, 24, .sl true []⟩),
 (26, ⟨.sl 96, 1, 24, .sl true []⟩),
 (27, ⟨.sl 70, 1, 24, .sl true []⟩),
 (28, ⟨.struct [(0, 9), (1, 9), (2, 9), (3, 3), (4, 21), (5, 4), (6, 23), (7, 24), (8, 25), (9, 26), (10, 27), (11, 9), (12, 9)], 13, 216, .agg [.str [], .str [], .str [], .int .i64 0, .int .i32 0, .bool false, .sl true [], .sl true [], .sl true [], .sl true [], .sl true [], .str [], .str []]⟩),
 (29, ⟨.struct [(0, 9), (1, 9), (2, 9), (3, 3), (4, 21), (5, 4), (6, 23), (7, 24), (8, 25), (9, 26), (10, 27), (11, 9), (12, 9)], 13, 216, .agg [.str [], .str [], .str [], .int .i64 0, .int .i32 0, .bool false, .sl true [], .sl true [], .sl true [], .sl true [], .sl true [], .str [], .str []]⟩),
 (30, ⟨.iface, 1, 16, .nili⟩),
 (31, ⟨.iface, 1, 16, .nili⟩),
 (33, ⟨.func, 1, 8, .nilf⟩),
 (34, ⟨.func, 1, 8, .nilf⟩),
 (35, ⟨.func, 1, 8, .nilf⟩),
 (36, ⟨.func, 1, 8, .nilf⟩),
 (38, ⟨.func, 1, 8, .nilf⟩),
 (39, ⟨.func, 1, 8, .nilf⟩),
 (41, ⟨.func, 1, 8, .nilf⟩),
 (42, ⟨.func, 1, 8, .nilf⟩),
 (43, ⟨.func, 1, 8, .nilf⟩),
 (44, ⟨.func, 1, 8, .nilf⟩),
 (45, ⟨.func, 1, 8, .nilf⟩),
 (46, ⟨.int .i64, 1, 8, .int .i64 0⟩),
 (47, ⟨.func, 1, 8, .nilf⟩),
 (48, ⟨.func, 1, 8, .nilf⟩),
 (49, ⟨.func, 1, 8, .nilf⟩),
 (50, ⟨.func, 1, 8, .nilf⟩),
 (51, ⟨.int .u64, 1, 8, .int .u64 0⟩),
 (52, ⟨.func, 1, 8, .nilf⟩),
 (53, ⟨.func, 1, 8, .nilf⟩),
 (54, ⟨.ptr, 1, 8, .nilp⟩),
 (55, ⟨.func, 1, 8, .nilf⟩),
 (56, ⟨.func, 1, 8, .nilf⟩),
 (57, ⟨.sl 9, 1, 24, .sl true []⟩),
 (58, ⟨.struct [(0, 3), (1, 51), (2, 9), (3, 57)], 4, 56, .agg [.int .i64 0, .int .u64 0, .str [], .sl true []]⟩),
 (59, ⟨.struct [(0, 3), (1, 51), (2, 9), (3, 57)], 4, 56, .agg [.int .i64 0, .int .u64 0, .str [], .sl true []]⟩),
 (60, ⟨.func, 1, 8, .nilf⟩),
 (61, ⟨.func, 1, 8, .nilf⟩),
 (62, ⟨.func, 1, 8, .nilf⟩),
 (63, ⟨.func, 1, 8, .nilf⟩),
 (64, ⟨.func, 1, 8, .nilf⟩),
 (65, ⟨.func, 1, 8, .nilf⟩),
 (66, ⟨.sl 68, 1, 24, .sl true []⟩),
 (67, ⟨.struct [(0, 3), (1, 9), (2, 4), (3, 51), (4, 66), (5, 27), (6, 9), (7, 9)], 8, 120, .agg [.int .i64 0, .str [], .bool false, .int .u64 0, .sl true [], .sl true [], .str [], .str []]⟩),
 (68, ⟨.struct [(0, 3), (1, 9), (2, 4), (3, 51), (4, 66), (5, 27), (6, 9), (7, 9)], 8, 120, .agg [.int .i64 0, .str [], .bool false, .int .u64 0, .sl true [], .sl true [], .str [], .str []]⟩),
 (69, ⟨.struct [(0, 9), (1, 4), (2, 68), (10, 9)], 11, 160, .agg [.str [], .bool false, .int .i64 0, .str [], .bool false, .int .u64 0, .sl true [], .sl true [], .str [], .str [], .str []]⟩),
 (70, ⟨.struct [(0, 9), (1, 4), (2, 68), (10, 9)], 11, 160, .agg [.str [], .bool false, .int .i64 0, .str [], .bool false, .int .u64 0, .sl true [], .sl true [], .str [], .str [], .str []]⟩),
 (71, ⟨.func, 1, 8, .nilf⟩),
 (72, ⟨.sl 153, 1, 24, .sl true []⟩),
 (73, ⟨.struct [(0, 31), (1, 9), (2, 3), (3, 3), (4, 72)], 5, 72, .agg [.nili, .str [], .int .i64 0, .int .i64 0, .sl true []]⟩),
 (74, ⟨.struct [(0, 31), (1, 9), (2, 3), (3, 3), (4, 72)], 5, 72, .agg [.nili, .str [], .int .i64 0, .int .i64 0, .sl true []]⟩),
 (75, ⟨.func, 1, 8, .nilf⟩),
 (76, ⟨.func, 1, 8, .nilf⟩),
 (77, ⟨.func, 1, 8, .nilf⟩),
 (78, ⟨.sl 241, 1, 24, .sl true []⟩),
 (79, ⟨.int .u32, 1, 4, .int .u32 0⟩),
 (80, ⟨.struct [(0, 27), (1, 51), (2, 51), (3, 3), (4, 51), (5, 78), (6, 79), (7, 9)], 8, 104, .agg [.sl true [], .int .u64 0, .int .u64 0, .int .i64 0, .int .u64 0, .sl true [], .int .u32 0, .str []]⟩),
 (81, ⟨.struct [(0, 27), (1, 51), (2, 51), (3, 3), (4, 51), (5, 78), (6, 79), (7, 9)], 8, 104, .agg [.sl true [], .int .u64 0, .int .u64 0, .int .i64 0, .int .u64 0, .sl true [], .int .u32 0, .str []]⟩),
 (82, ⟨.func, 1, 8, .nilf⟩),
 (83, ⟨.struct [(0, 4), (1, 51)], 2, 16, .agg [.bool false, .int .u64 0]⟩),
 (84, ⟨.struct [(0, 4), (1, 51)], 2, 16, .agg [.bool false, .int .u64 0]⟩),
 (85, ⟨.sl 51, 1, 24, .sl true []⟩),
 (86, ⟨.struct [(0, 27), (1, 51), (2, 51), (3, 51), (4, 84), (6, 84), (8, 84), (10, 85), (11, 85), (12, 78), (13, 79), (14, 9)], 15, 192, .agg [.sl true [], .int .u64 0, .int .u64 0, .int .u64 0, .bool false, .int .u64 0, .bool false, .int .u64 0, .bool false, .int .u64 0, .sl true [], .sl true [], .sl true [], .int .u32 0, .str []]⟩),
 (87, ⟨.struct [(0, 27), (1, 51), (2, 51), (3, 51), (4, 84), (6, 84), (8, 84), (10, 85), (11, 85), (12, 78), (13, 79), (14, 9)], 15, 192, .agg [.sl true [], .int .u64 0, .int .u64 0, .int .u64 0, .bool false, .int .u64 0, .bool false, .int .u64 0, .bool false, .int .u64 0, .sl true [], .sl true [], .sl true [], .int .u32 0, .str []]⟩),
 (88, ⟨.func, 1, 8, .nilf⟩),
 (89, ⟨.struct [(0, 21), (1, 85), (2, 9)], 3, 48, .agg [.int .i32 0, .sl true [], .str []]⟩),
 (90, ⟨.struct [(0, 21), (1, 85), (2, 9)], 3, 48, .agg [.int .i32 0, .sl true [], .str []]⟩),
 (91, ⟨.struct [(0, 27), (1, 51), (2, 51), (3, 51), (4, 84), (6, 84), (8, 84), (10, 21), (11, 51), (12, 4), (13, 90), (16, 4), (17, 90), (20, 78), (21, 79), (22, 51), (23, 9)], 24, 280, .agg [.sl true [], .int .u64 0, .int .u64 0, .int .u64 0, .bool false, .int .u64 0, .bool false, .int .u64 0, .bool false, .int .u64 0, .int .i32 0, .int .u64 0, .bool false, .int .i32 0, .sl true [], .str [], .bool false, .int .i32 0, .sl true [], .str [], .sl true [], .int .u32 0, .int .u64 0, .str []]⟩),
 (92, ⟨.struct [(0, 27), (1, 51), (2, 51), (3, 51), (4, 84), (6, 84), (8, 84), (10, 21), (11, 51), (12, 4), (13, 90), (16, 4), (17, 90), (20, 78), (21, 79), (22, 51), (23, 9)], 24, 280, .agg [.sl true [], .int .u64 0, .int .u64 0, .int .u64 0, .bool false, .int .u64 0, .bool false, .int .u64 0, .bool false, .int .u64 0, .int .i32 0, .int .u64 0, .bool false, .int .i32 0, .sl true [], .str [], .bool false, .int .i32 0, .sl true [], .str [], .sl true [], .int .u32 0, .int .u64 0, .str []]⟩),
 (93, ⟨.func, 1, 8, .nilf⟩),
 (94, ⟨.sl 180, 1, 24, .sl true []⟩),
 (95, ⟨.struct [(0, 27), (1, 51), (2, 51), (3, 51), (4, 51), (5, 94), (6, 79), (7, 9)], 8, 104, .agg [.sl true [], .int .u64 0, .int .u64 0, .int .u64 0, .int .u64 0, .sl true [], .int .u32 0, .str []]⟩),
 (96, ⟨.struct [(0, 27), (1, 51), (2, 51), (3, 51), (4, 51), (5, 94), (6, 79), (7, 9)], 8, 104, .agg [.sl true [], .int .u64 0, .int .u64 0, .int .u64 0, .int .u64 0, .sl true [], .int .u32 0, .str []]⟩),
 (97, ⟨.ptr, 1, 8, .nilp⟩),
 (98, ⟨.sl 5, 1, 24, .sl true []⟩),
 (99, ⟨.struct [(0, 97), (1, 98)], 2, 32, .agg [.nilp, .sl true []]⟩),
 (100, ⟨.struct [(0, 97), (1, 98)], 2, 32, .agg [.nilp, .sl true []]⟩),
 (101, ⟨.struct [(0, 100)], 2, 32, .agg [.nilp, .sl true []]⟩),
 (102, ⟨.struct [(0, 100)], 2, 32, .agg [.nilp, .sl true []]⟩),
 (103, ⟨.func, 1, 8, .nilf⟩),
 (104, ⟨.func, 1, 8, .nilf⟩),
 (105, ⟨.func, 1, 8, .nilf⟩),
 (106, ⟨.ptr, 1, 8, .nilp⟩),
 (107, ⟨.func, 1, 8, .nilf⟩),
 (108, ⟨.func, 1, 8, .nilf⟩),
 (109, ⟨.func, 1, 8, .nilf⟩),
 (110, ⟨.sl 114, 1, 24, .sl true []⟩),
 (112, ⟨.func, 1, 8, .nilf⟩),
 (113, ⟨.struct [(0, 3), (1, 3), (2, 51), (3, 9), (4, 9)], 5, 56, .agg [.int .i64 0, .int .i64 0, .int .u64 0, .str [], .str []]⟩),
 (114, ⟨.struct [(0, 3), (1, 3), (2, 51), (3, 9), (4, 9)], 5, 56, .agg [.int .i64 0, .int .i64 0, .int .u64 0, .str [], .str []]⟩),
 (115, ⟨.func, 1, 8, .nilf⟩),
 (116, ⟨.sl 3, 1, 24, .sl true []⟩),
 (117, ⟨.func, 1, 8, .nilf⟩),
 (118, ⟨.func, 1, 8, .nilf⟩),
 (120, ⟨.func, 1, 8, .nilf⟩),
 (121, ⟨.func, 1, 8, .nilf⟩),
 (123, ⟨.func, 1, 8, .nilf⟩),
 (124, ⟨.func, 1, 8, .nilf⟩),
 (125, ⟨.func, 1, 8, .nilf⟩),
 (126, ⟨.func, 1, 8, .nilf⟩),
 (127, ⟨.func, 1, 8, .nilf⟩),
 (128, ⟨.func, 1, 8, .nilf⟩),
 (129, ⟨.func, 1, 8, .nilf⟩),
 (130, ⟨.int .u64, 1, 8, .int .u64 0⟩),
 (131, ⟨.func, 1, 8, .nilf⟩),
 (132, ⟨.ptr, 1, 8, .nilp⟩),
 (133, ⟨.func, 1, 8, .nilf⟩),
 (134, ⟨.func, 1, 8, .nilf⟩),
 (135, ⟨.func, 1, 8, .nilf⟩),
 (136, ⟨.func, 1, 8, .nilf⟩),
 (137, ⟨.func, 1, 8, .nilf⟩),
 (138, ⟨.func, 1, 8, .nilf⟩),
 (139, ⟨.func, 1, 8, .nilf⟩),
 (140, ⟨.func, 1, 8, .nilf⟩),
 (141, ⟨.func, 1, 8, .nilf⟩),
 (142, ⟨.func, 1, 8, .nilf⟩),
 (143, ⟨.func, 1, 8, .nilf⟩),
 (144, ⟨.func, 1, 8, .nilf⟩),
 (145, ⟨.func, 1, 8, .nilf⟩),
 (146, ⟨.func, 1, 8, .nilf⟩),
 (147, ⟨.func, 1, 8, .nilf⟩),
 (148, ⟨.func, 1, 8, .nilf⟩),
 (149, ⟨.func, 1, 8, .nilf⟩),
 (150, ⟨.func, 1, 8, .nilf⟩),
 (152, ⟨.func, 1, 8, .nilf⟩),
 (153, ⟨.struct [(0, 3), (1, 3), (2, 51), (3, 9), (4, 9)], 5, 56, .agg [.int .i64 0, .int .i64 0, .int .u64 0, .str [], .str []]⟩),
 (155, ⟨.func, 1, 8, .nilf⟩),
 (156, ⟨.func, 1, 8, .nilf⟩),
 (157, ⟨.func, 1, 8, .nilf⟩),
 (158, ⟨.func, 1, 8, .nilf⟩),
 (159, ⟨.func, 1, 8, .nilf⟩),
 (160, ⟨.func, 1, 8, .nilf⟩),
 (161, ⟨.func, 1, 8, .nilf⟩),
 (162, ⟨.func, 1, 8, .nilf⟩),
 (163, ⟨.func, 1, 8, .nilf⟩),
 (164, ⟨.func, 1, 8, .nilf⟩),
 (165, ⟨.func, 1, 8, .nilf⟩),
 (166, ⟨.func, 1, 8, .nilf⟩),
 (167, ⟨.func, 1, 8, .nilf⟩),
 (168, ⟨.func, 1, 8, .nilf⟩),
 (169, ⟨.func, 1, 8, .nilf⟩),
 (170, ⟨.func, 1, 8, .nilf⟩),
 (171, ⟨.func, 1, 8, .nilf⟩),
 (172, ⟨.func, 1, 8, .nilf⟩),
 (174, ⟨.func, 1, 8, .nilf⟩),
 (175, ⟨.func, 1, 8, .nilf⟩),
 (176, ⟨.func, 1, 8, .nilf⟩),
 (177, ⟨.func, 1, 8, .nilf⟩),
 (178, ⟨.func, 1, 8, .nilf⟩),
 (179, ⟨.struct [(0, 51), (1, 51), (2, 9)], 3, 32, .agg [.int .u64 0, .int .u64 0, .str []]⟩),
 (180, ⟨.struct [(0, 51), (1, 51), (2, 9)], 3, 32, .agg [.int .u64 0, .int .u64 0, .str []]⟩),
 (181, ⟨.func, 1, 8, .nilf⟩),
 (182, ⟨.func, 1, 8, .nilf⟩),
 (183, ⟨.func, 1, 8, .nilf⟩),
 (184, ⟨.func, 1, 8, .nilf⟩),
 (185, ⟨.func, 1, 8, .nilf⟩),
 (186, ⟨.func, 1, 8, .nilf⟩),
 (187, ⟨.func, 1, 8, .nilf⟩),
 (188, ⟨.func, 1, 8, .nilf⟩),
 (189, ⟨.func, 1, 8, .nilf⟩),
 (190, ⟨.func, 1, 8, .nilf⟩),
 (191, ⟨.func, 1, 8, .nilf⟩),
 (192, ⟨.func, 1, 8, .nilf⟩),
 (193, ⟨.func, 1, 8, .nilf⟩),
 (194, ⟨.func, 1, 8, .nilf⟩),
 (196, ⟨.func, 1, 8, .nilf⟩),
 (198, ⟨.func, 1, 8, .nilf⟩),
 (200, ⟨.func, 1, 8, .nilf⟩),
 (202, ⟨.func, 1, 8, .nilf⟩),
 (203, ⟨.ptr, 1, 8, .nilp⟩),
 (204, ⟨.ptr, 1, 8, .nilp⟩),
 (205, ⟨.struct [(0, 3), (1, 31)], 2, 24, .agg [.int .i64 0, .nili]⟩),
 (206, ⟨.struct [(0, 3), (1, 31)], 2, 24, .agg [.int .i64 0, .nili]⟩),
 (207, ⟨.func, 1, 8, .nilf⟩),
 (208, ⟨.func, 1, 8, .nilf⟩),
 (209, ⟨.func, 1, 8, .nilf⟩),
 (210, ⟨.func, 1, 8, .nilf⟩),
 (211, ⟨.func, 1, 8, .nilf⟩),
 (216, ⟨.func, 1, 8, .nilf⟩),
 (217, ⟨.iface, 1, 16, .nili⟩),
 (219, ⟨.func, 1, 8, .nilf⟩),
 (221, ⟨.func, 1, 8, .nilf⟩),
 (222, ⟨.func, 1, 8, .nilf⟩),
 (223, ⟨.func, 1, 8, .nilf⟩),
 (224, ⟨.func, 1, 8, .nilf⟩),
 (225, ⟨.func, 1, 8, .nilf⟩),
 (226, ⟨.func, 1, 8, .nilf⟩),
 (227, ⟨.func, 1, 8, .nilf⟩),
 (228, ⟨.sl 4, 1, 24, .sl true []⟩),
 (229, ⟨.func, 1, 8, .nilf⟩),
 (230, ⟨.func, 1, 8, .nilf⟩),
 (231, ⟨.func, 1, 8, .nilf⟩),
 (232, ⟨.func, 1, 8, .nilf⟩),
 (233, ⟨.func, 1, 8, .nilf⟩),
 (234, ⟨.func, 1, 8, .nilf⟩),
 (235, ⟨.func, 1, 8, .nilf⟩),
 (236, ⟨.func, 1, 8, .nilf⟩),
 (237, ⟨.func, 1, 8, .nilf⟩),
 (238, ⟨.func, 1, 8, .nilf⟩),
 (239, ⟨.func, 1, 8, .nilf⟩),
 (240, ⟨.struct [(0, 27), (1, 51), (2, 3), (3, 51), (4, 9), (5, 9), (6, 9)], 7, 96, .agg [.sl true [], .int .u64 0, .int .i64 0, .int .u64 0, .str [], .str [], .str []]⟩),
 (241, ⟨.struct [(0, 27), (1, 51), (2, 3), (3, 51), (4, 9), (5, 9), (6, 9)], 7, 96, .agg [.sl true [], .int .u64 0, .int .i64 0, .int .u64 0, .str [], .str [], .str []]⟩),
 (242, ⟨.func, 1, 8, .nilf⟩),
 (243, ⟨.func, 1, 8, .nilf⟩),
 (244, ⟨.func, 1, 8, .nilf⟩),
 (245, ⟨.ptr, 1, 8, .nilp⟩),
 (246, ⟨.struct [(0, 9), (1, 3), (2, 31), (3, 3)], 4, 48, .agg [.str [], .int .i64 0, .nili, .int .i64 0]⟩),
 (247, ⟨.struct [(0, 9), (1, 3), (2, 31), (3, 3)], 4, 48, .agg [.str [], .int .i64 0, .nili, .int .i64 0]⟩),
 (248, ⟨.func, 1, 8, .nilf⟩),
 (249, ⟨.ptr, 1, 8, .nilp⟩),
 (250, ⟨.func, 1, 8, .nilf⟩),
 (251, ⟨.func, 1, 8, .nilf⟩),
 (252, ⟨.func, 1, 8, .nilf⟩),
 (253, ⟨.func, 1, 8, .nilf⟩),
 (255, ⟨.func, 1, 8, .nilf⟩),
 (256, ⟨.func, 1, 8, .nilf⟩),
 (257, ⟨.func, 1, 8, .nilf⟩),
 (258, ⟨.func, 1, 8, .nilf⟩),
 (259, ⟨.func, 1, 8, .nilf⟩),
 (260, ⟨.func, 1, 8, .nilf⟩),
 (262, ⟨.func, 1, 8, .nilf⟩),
 (263, ⟨.func, 1, 8, .nilf⟩),
 (264, ⟨.func, 1, 8, .nilf⟩),
 (265, ⟨.func, 1, 8, .nilf⟩),
 (266, ⟨.func, 1, 8, .nilf⟩),
 (267, ⟨.func, 1, 8, .nilf⟩),
 (269, ⟨.func, 1, 8, .nilf⟩),
 (270, ⟨.struct [(0, 66), (1, 9)], 2, 40, .agg [.sl true [], .str []]⟩),
 (271, ⟨.struct [(0, 66), (1, 9)], 2, 40, .agg [.sl true [], .str []]⟩),
 (272, ⟨.func, 1, 8, .nilf⟩),
 (273, ⟨.func, 1, 8, .nilf⟩),
 (274, ⟨.func, 1, 8, .nilf⟩),
 (275, ⟨.struct [(0, 27), (1, 9)], 2, 40, .agg [.sl true [], .str []]⟩),
 (276, ⟨.struct [(0, 27), (1, 9)], 2, 40, .agg [.sl true [], .str []]⟩),
 (277, ⟨.func, 1, 8, .nilf⟩),
 (278, ⟨.func, 1, 8, .nilf⟩),
 (279, ⟨.func, 1, 8, .nilf⟩),
 (280, ⟨.func, 1, 8, .nilf⟩),
 (281, ⟨.func, 1, 8, .nilf⟩),
 (282, ⟨.func, 1, 8, .nilf⟩),
 (283, ⟨.func, 1, 8, .nilf⟩),
 (284, ⟨.func, 1, 8, .nilf⟩),
 (285, ⟨.func, 1, 8, .nilf⟩),
 (286, ⟨.func, 1, 8, .nilf⟩),
 (287, ⟨.func, 1, 8, .nilf⟩),
 (288, ⟨.func, 1, 8, .nilf⟩),
 (289, ⟨.func, 1, 8, .nilf⟩),
 (290, ⟨.func, 1, 8, .nilf⟩),
 (291, ⟨.func, 1, 8, .nilf⟩),
 (293, ⟨.func, 1, 8, .nilf⟩),
 (294, ⟨.func, 1, 8, .nilf⟩),
 (295, ⟨.func, 1, 8, .nilf⟩),
 (297, ⟨.func, 1, 8, .nilf⟩),
 (299, ⟨.func, 1, 8, .nilf⟩),
 (300, ⟨.func, 1, 8, .nilf⟩),
 (302, ⟨.func, 1, 8, .nilf⟩),
 (303, ⟨.struct [(0, 17)], 1, 8, .agg [.nilp]⟩),
 (306, ⟨.func, 1, 8, .nilf⟩),
 (307, ⟨.func, 1, 8, .nilf⟩),
 (308, ⟨.func, 1, 8, .nilf⟩),
 (309, ⟨.iface, 1, 16, .nili⟩),
 (311, ⟨.func, 1, 8, .nilf⟩),
 (312, ⟨.iface, 1, 16, .nili⟩),
 (313, ⟨.func, 1, 8, .nilf⟩),
 (314, ⟨.iface, 1, 16, .nili⟩),
 (315, ⟨.sl 31, 1, 24, .sl true []⟩),
 (316, ⟨.func, 1, 8, .nilf⟩),
 (317, ⟨.func, 1, 8, .nilf⟩),
 (318, ⟨.func, 1, 8, .nilf⟩),
 (319, ⟨.func, 1, 8, .nilf⟩),
 (320, ⟨.func, 1, 8, .nilf⟩),
 (321, ⟨.func, 1, 8, .nilf⟩),
 (322, ⟨.func, 1, 8, .nilf⟩),
 (323, ⟨.func, 1, 8, .nilf⟩),
 (324, ⟨.func, 1, 8, .nilf⟩),
 (325, ⟨.func, 1, 8, .nilf⟩),
 (326, ⟨.func, 1, 8, .nilf⟩),
 (327, ⟨.func, 1, 8, .nilf⟩),
 (328, ⟨.func, 1, 8, .nilf⟩),
 (329, ⟨.func, 1, 8, .nilf⟩),
 (330, ⟨.func, 1, 8, .nilf⟩),
 (331, ⟨.func, 1, 8, .nilf⟩),
 (332, ⟨.func, 1, 8, .nilf⟩),
 (333, ⟨.func, 1, 8, .nilf⟩),
 (334, ⟨.func, 1, 8, .nilf⟩),
 (335, ⟨.func, 1, 8, .nilf⟩),
 (336, ⟨.func, 1, 8, .nilf⟩),
 (337, ⟨.func, 1, 8, .nilf⟩),
 (338, ⟨.func, 1, 8, .nilf⟩),
 (339, ⟨.func, 1, 8, .nilf⟩),
 (340, ⟨.ptr, 1, 8, .nilp⟩),
 (341, ⟨.struct [(0, 3), (1, 31)], 2, 24, .agg [.int .i64 0, .nili]⟩),
 (342, ⟨.struct [(0, 3), (1, 31)], 2, 24, .agg [.int .i64 0, .nili]⟩),
 (344, ⟨.func, 1, 8, .nilf⟩),
 (345, ⟨.func, 1, 8, .nilf⟩),
 (346, ⟨.ptr, 1, 8, .nilp⟩),
 (347, ⟨.func, 1, 8, .nilf⟩),
 (349, ⟨.func, 1, 8, .nilf⟩),
 (351, ⟨.func, 1, 8, .nilf⟩),
 (352, ⟨.func, 1, 8, .nilf⟩),
 (354, ⟨.func, 1, 8, .nilf⟩),
 (356, ⟨.func, 1, 8, .nilf⟩),
 (358, ⟨.func, 1, 8, .nilf⟩),
 (359, ⟨.func, 1, 8, .nilf⟩),
 (360, ⟨.func, 1, 8, .nilf⟩),
 (361, ⟨.func, 1, 8, .nilf⟩),
 (362, ⟨.func, 1, 8, .nilf⟩),
 (363, ⟨.func, 1, 8, .nilf⟩),
 (364, ⟨.func, 1, 8, .nilf⟩),
 (365, ⟨.func, 1, 8, .nilf⟩),
 (367, ⟨.func, 1, 8, .nilf⟩),
 (368, ⟨.func, 1, 8, .nilf⟩),
 (369, ⟨.func, 1, 8, .nilf⟩),
 (370, ⟨.func, 1, 8, .nilf⟩),
 (371, ⟨.func, 1, 8, .nilf⟩),
 (373, ⟨.func, 1, 8, .nilf⟩),
 (374, ⟨.func, 1, 8, .nilf⟩),
 (375, ⟨.func, 1, 8, .nilf⟩),
 (376, ⟨.func, 1, 8, .nilf⟩),
 (377, ⟨.func, 1, 8, .nilf⟩),
 (378, ⟨.sl 84, 1, 24, .sl true []⟩),
 (379, ⟨.func, 1, 8, .nilf⟩),
 (380, ⟨.func, 1, 8, .nilf⟩),
 (381, ⟨.func, 1, 8, .nilf⟩),
 (382, ⟨.func, 1, 8, .nilf⟩),
 (383, ⟨.func, 1, 8, .nilf⟩),
 (384, ⟨.func, 1, 8, .nilf⟩),
 (385, ⟨.func, 1, 8, .nilf⟩),
 (386, ⟨.func, 1, 8, .nilf⟩),
 (387, ⟨.func, 1, 8, .nilf⟩),
 (388, ⟨.func, 1, 8, .nilf⟩),
 (389, ⟨.func, 1, 8, .nilf⟩),
 (396, ⟨.func, 1, 8, .nilf⟩),
 (397, ⟨.func, 1, 8, .nilf⟩),
 (398, ⟨.func, 1, 8, .nilf⟩),
 (399, ⟨.func, 1, 8, .nilf⟩),
 (400, ⟨.func, 1, 8, .nilf⟩),
 (401, ⟨.func, 1, 8, .nilf⟩),
 (403, ⟨.func, 1, 8, .nilf⟩),
 (404, ⟨.func, 1, 8, .nilf⟩),
 (405, ⟨.struct [(0, 17), (1, 17), (2, 17), (3, 9)], 4, 40, .agg [.nilp, .nilp, .nilp, .str []]⟩),
 (410, ⟨.func, 1, 8, .nilf⟩),
 (411, ⟨.func, 1, 8, .nilf⟩),
 (413, ⟨.func, 1, 8, .nilf⟩),
 (416, ⟨.struct [(0, 12), (1, 12), (2, 79), (3, 412), (4, 5), (5, 5), (6, 220), (7, 413), (8, 249), (9, 414), (10, 415)], 11, 48, .agg [.int .u64 0, .int .u64 0, .int .u32 0, .int .u8 0, .int .u8 0, .int .u8 0, .int .u8 0, .nilf, .nilp, .int .i32 0, .int .i32 0]⟩),
 (418, ⟨.func, 1, 8, .nilf⟩),
 (419, ⟨.func, 1, 8, .nilf⟩),
 (420, ⟨.struct [(0, 9), (1, 220)], 2, 24, .agg [.str [], .int .u8 0]⟩),
 (423, ⟨.func, 1, 8, .nilf⟩),
 (424, ⟨.int .u16, 1, 2, .int .u16 0⟩),
 (425, ⟨.struct [(0, 414), (1, 424), (2, 424), (3, 79), (4, 79)], 5, 16, .agg [.int .i32 0, .int .u16 0, .int .u16 0, .int .u32 0, .int .u32 0]⟩),
 (427, ⟨.sl 430, 1, 24, .sl true []⟩),
 (429, ⟨.struct [(0, 414), (1, 415), (2, 428), (3, 428)], 4, 16, .agg [.int .i32 0, .int .i32 0, .int .i32 0, .int .i32 0]⟩),
 (431, ⟨.ptr, 1, 8, .nilp⟩)]
def AllRows (P : Program) : List (Nat × Ti) → Prop
 | [] => True
 | (k, i) :: r => RowOk P k i ∧ AllRows P r
theorem look_ok {P : Program} : ∀ {l : List (Nat × Ti)}, AllRows P l → ∀ t i, look l t = some i → RowOk P t i
 | [], _, t, i, h => by simp [look] at h
 | (k, j) :: r, ha, t, i, h => by
  unfold look at h
  cases hb : Nat.beq k t with
  | true => rw [hb] at h; simp at h; subst h; rw [← Nat.eq_of_beq_eq_true hb]; exact ha.1
  | false => rw [hb] at h; exact look_ok ha.2 t i h
theorem row1 : RowOk Tryz.prog 1 ⟨.func, 1, 8, .nilf⟩ := ⟨by kernel_rfl, by kernel_rfl, by kernel_rfl, by kernel_rfl⟩
theorem row2 : RowOk Tryz.prog 2 ⟨.int .i64, 1, 8, .int .i64 0⟩ := ⟨by kernel_rfl, by kernel_rfl, by kernel_rfl, by kernel_rfl⟩
theorem row3 : RowOk Tryz.prog 3 ⟨.int .i64, 1, 8, .int .i64 0⟩ := ⟨by kernel_rfl, by kernel_rfl, by kernel_rfl, by kernel_rfl⟩
theorem row4 : RowOk Tryz.prog 4 ⟨.bool, 1, 1, .bool false⟩ := ⟨by kernel_rfl, by kernel_rfl, by kernel_rfl, by kernel_rfl⟩
theorem row5 : RowOk Tryz.prog 5 ⟨.int .u8, 1, 1, .int .u8 0⟩ := ⟨by kernel_rfl, by kernel_rfl, by kernel_rfl, by kernel_rfl⟩
theorem row7 : RowOk Tryz.prog 7 ⟨.struct [(0, 2), (1, 3), (2, 4), (3, 6)], 4, 24, .agg [.int .i64 0, .int .i64 0, .bool false, .int .u8 0]⟩ := ⟨by kernel_rfl, by kernel_rfl, by kernel_rfl, by kernel_rfl⟩
theorem row9 : RowOk Tryz.prog 9 ⟨.str, 1, 16, .str []⟩ := ⟨by kernel_rfl, by kernel_rfl, by kernel_rfl, by kernel_rfl⟩
theorem row12 : RowOk Tryz.prog 12 ⟨.int .u64, 1, 8, .int .u64 0⟩ := ⟨by kernel_rfl, by kernel_rfl, by kernel_rfl, by kernel_rfl⟩
theorem row13 : RowOk Tryz.prog 13 ⟨.struct [(0, 9), (1, 12)], 2, 24, .agg [.str [], .int .u64 0]⟩ := ⟨by kernel_rfl, by kernel_rfl, by kernel_rfl, by kernel_rfl⟩
theorem row18 : RowOk Tryz.prog 18 ⟨.struct [(0, 17)], 1, 8, .agg [.nilp]⟩ := ⟨by kernel_rfl, by kernel_rfl, by kernel_rfl, by kernel_rfl⟩
theorem row20 : RowOk Tryz.prog 20 ⟨.iface, 1, 16, .nili⟩ := ⟨by kernel_rfl, by kernel_rfl, by kernel_rfl, by kernel_rfl⟩
theorem row21 : RowOk Tryz.prog 21 ⟨.int .i32, 1, 4, .int .i32 0⟩ := ⟨by kernel_rfl, by kernel_rfl, by kernel_rfl, by kernel_rfl⟩
theorem row22 : RowOk Tryz.prog 22 ⟨.func, 1, 8, .nilf⟩ := ⟨by kernel_rfl, by kernel_rfl, by kernel_rfl, by kernel_rfl⟩
theorem row23 : RowOk Tryz.prog 23 ⟨.sl 81, 1, 24, .sl true []⟩ := ⟨by kernel_rfl, by kernel_rfl, by kernel_rfl, by kernel_rfl⟩
theorem row24 : RowOk Tryz.prog 24 ⟨.sl 87, 1, 24, .sl true []⟩ := ⟨by kernel_rfl, by kernel_rfl, by kernel_rfl, by kernel_rfl⟩
theorem row25 : RowOk Tryz.prog 25 ⟨.sl 92, 1, 24, .sl true []⟩ := ⟨by kernel_rfl, by kernel_rfl, by kernel_rfl, by kernel_rfl⟩
theorem row26 : RowOk Tryz.prog 26 ⟨.sl 96, 1, 24, .sl true []⟩ := ⟨by kernel_rfl, by kernel_rfl, by kernel_rfl, by kernel_rfl⟩
theorem row27 : RowOk Tryz.prog 27 ⟨.sl 70, 1, 24, .sl true []⟩ := ⟨by kernel_rfl, by kernel_rfl, by kernel_rfl, by kernel_rfl⟩
theorem row28 : RowOk Tryz.prog 28 ⟨.struct [(0, 9), (1, 9), (2, 9), (3, 3), (4, 21), (5, 4), (6, 23), (7, 24), (8, 25), (9, 26), (10, 27), (11, 9), (12, 9)], 13, 216, .agg [.str [], .str [], .str [], .int .i64 0, .int .i32 0, .bool false, .sl true [], .sl true [], .sl true [], .sl true [], .sl true [], .str [], .str []]⟩ := ⟨by kernel_rfl, by kernel_rfl, by kernel_rfl, by kernel_rfl⟩
theorem row29 : RowOk Tryz.prog 29 ⟨.struct [(0, 9), (1, 9), (2, 9), (3, 3), (4, 21), (5, 4), (6, 23), (7, 24), (8, 25), (9, 26), (10, 27), (11, 9), (12, 9)], 13, 216, .agg [.str [], .str [], .str [], .int .i64 0, .int .i32 0, .bool false, .sl true [], .sl true [], .sl true [], .sl true [], .sl true [], .str [], .str []]⟩ := ⟨by kernel_rfl, by kernel_rfl, by kernel_rfl, by kernel_rfl⟩
theorem row30 : RowOk Tryz.prog 30 ⟨.iface, 1, 16, .nili⟩ := ⟨by kernel_rfl, by kernel_rfl, by kernel_rfl, by kernel_rfl⟩
theorem row31 : RowOk Tryz.prog 31 ⟨.iface, 1, 16, .nili⟩ := ⟨by kernel_rfl, by kernel_rfl, by kernel_rfl, by kernel_rfl⟩
theorem row33 : RowOk Tryz.prog 33 ⟨.func, 1, 8, .nilf⟩ := ⟨by kernel_rfl, by kernel_rfl, by kernel_rfl, by kernel_rfl⟩
theorem row34 : RowOk Tryz.prog 34 ⟨.func, 1, 8, .nilf⟩ := ⟨by kernel_rfl, by kernel_rfl, by kernel_rfl, by kernel_rfl⟩
theorem row35 : RowOk Tryz.prog 35 ⟨.func, 1, 8, .nilf⟩ := ⟨by kernel_rfl, by kernel_rfl, by kernel_rfl, by kernel_rfl⟩
theorem row36 : RowOk Tryz.prog 36 ⟨.func, 1, 8, .nilf⟩ := ⟨by kernel_rfl, by kernel_rfl, by kernel_rfl, by kernel_rfl⟩
theorem row38 : RowOk Tryz.prog 38 ⟨.func, 1, 8, .nilf⟩ := ⟨by kernel_rfl, by kernel_rfl, by kernel_rfl, by kernel_rfl⟩
theorem row39 : RowOk Tryz.prog 39 ⟨.func, 1, 8, .nilf⟩ := ⟨by kernel_rfl, by kernel_rfl, by kernel_rfl, by kernel_rfl⟩
theorem row41 : RowOk Tryz.prog 41 ⟨.func, 1, 8, .nilf⟩ := ⟨by kernel_rfl, by kernel_rfl, by kernel_rfl, by kernel_rfl⟩
theorem row42 : RowOk Tryz.prog 42 ⟨.func, 1, 8, .nilf⟩ := ⟨by kernel_rfl, by kernel_rfl, by kernel_rfl, by kernel_rfl⟩
theorem row43 : RowOk Tryz.prog 43 ⟨.func, 1, 8, .nilf⟩ := ⟨by kernel_rfl, by kernel_rfl, by kernel_rfl, by kernel_rfl⟩
theorem row44 : RowOk Tryz.prog 44 ⟨.func, 1, 8, .nilf⟩ := ⟨by kernel_rfl, by kernel_rfl, by kernel_rfl, by kernel_rfl⟩
theorem row45 : RowOk Tryz.prog 45 ⟨.func, 1, 8, .nilf⟩ := ⟨by kernel_rfl, by kernel_rfl, by kernel_rfl, by kernel_rfl⟩
theorem row46 : RowOk Tryz.prog 46 ⟨.int .i64, 1, 8, .int .i64 0⟩ := ⟨by kernel_rfl, by kernel_rfl, by kernel_rfl, by kernel_rfl⟩
theorem row47 : RowOk Tryz.prog 47 ⟨.func, 1, 8, .nilf⟩ := ⟨by kernel_rfl, by kernel_rfl, by kernel_rfl, by kernel_rfl⟩
theorem row48 : RowOk Tryz.prog 48 ⟨.func, 1, 8, .nilf⟩ := ⟨by kernel_rfl, by kernel_rfl, by kernel_rfl, by kernel_rfl⟩
theorem row49 : RowOk Tryz.prog 49 ⟨.func, 1, 8, .nilf⟩ := ⟨by kernel_rfl, by kernel_rfl, by kernel_rfl, by kernel_rfl⟩
theorem row50 : RowOk Tryz.prog 50 ⟨.func, 1, 8, .nilf⟩ := ⟨by kernel_rfl, by kernel_rfl, by kernel_rfl, by kernel_rfl⟩
theorem row51 : RowOk Tryz.prog 51 ⟨.int .u64, 1, 8, .int .u64 0⟩ := ⟨by kernel_rfl, by kernel_rfl, by kernel_rfl, by kernel_rfl⟩
theorem row52 : RowOk Tryz.prog 52 ⟨.func, 1, 8, .nilf⟩ := ⟨by kernel_rfl, by kernel_rfl, by kernel_rfl, by kernel_rfl⟩
theorem row53 : RowOk Tryz.prog 53 ⟨.func, 1, 8, .nilf⟩ := ⟨by kernel_rfl, by kernel_rfl, by kernel_rfl, by kernel_rfl⟩
theorem row54 : RowOk Tryz.prog 54 ⟨.ptr, 1, 8, .nilp⟩ := ⟨by kernel_rfl, by kernel_rfl, by kernel_rfl, by kernel_rfl⟩
theorem row55 : RowOk Tryz.prog 55 ⟨.func, 1, 8, .nilf⟩ := ⟨by kernel_rfl, by kernel_rfl, by kernel_rfl, by kernel_rfl⟩
theorem row56 : RowOk Tryz.prog 56 ⟨.func, 1, 8, .nilf⟩ := ⟨by kernel_rfl, by kernel_rfl, by kernel_rfl, by kernel_rfl⟩
theorem row57 : RowOk Tryz.prog 57 ⟨.sl 9, 1, 24, .sl true []⟩ := ⟨by kernel_rfl, by kernel_rfl, by kernel_rfl, by kernel_rfl⟩
theorem row58 : RowOk Tryz.prog 58 ⟨.struct [(0, 3), (1, 51), (2, 9), (3, 57)], 4, 56, .agg [.int .i64 0, .int .u64 0, .str [], .sl true []]⟩ := ⟨by kernel_rfl, by kernel_rfl, by kernel_rfl, by kernel_rfl⟩
theorem row59 : RowOk Tryz.prog 59 ⟨.struct [(0, 3), (1, 51), (2, 9), (3, 57)], 4, 56, .agg [.int .i64 0, .int .u64 0, .str [], .sl true []]⟩ := ⟨by kernel_rfl, by kernel_rfl, by kernel_rfl, by kernel_rfl⟩
theorem row60 : RowOk Tryz.prog 60 ⟨.func, 1, 8, .nilf⟩ := ⟨by kernel_rfl, by kernel_rfl, by kernel_rfl, by kernel_rfl⟩
theorem row61 : RowOk Tryz.prog 61 ⟨.func, 1, 8, .nilf⟩ := ⟨by kernel_rfl, by kernel_rfl, by kernel_rfl, by kernel_rfl⟩
theorem row62 : RowOk Tryz.prog 62 ⟨.func, 1, 8, .nilf⟩ := ⟨by kernel_rfl, by kernel_rfl, by kernel_rfl, by kernel_rfl⟩
theorem row63 : RowOk Tryz.prog 63 ⟨.func, 1, 8, .nilf⟩ := ⟨by kernel_rfl, by kernel_rfl, by kernel_rfl, by kernel_rfl⟩
theorem row64 : RowOk Tryz.prog 64 ⟨.func, 1, 8, .nilf⟩ := ⟨by kernel_rfl, by kernel_rfl, by kernel_rfl, by kernel_rfl⟩
theorem row65 : RowOk Tryz.prog 65 ⟨.func, 1, 8, .nilf⟩ := ⟨by kernel_rfl, by kernel_rfl, by kernel_rfl, by kernel_rfl⟩
theorem row66 : RowOk Tryz.prog 66 ⟨.sl 68, 1, 24, .sl true []⟩ := ⟨by kernel_rfl, by kernel_rfl, by kernel_rfl, by kernel_rfl⟩
theorem row67 : RowOk Tryz.prog 67 ⟨.struct [(0, 3), (1, 9), (2, 4), (3, 51), (4, 66), (5, 27), (6, 9), (7, 9)], 8, 120, .agg [.int .i64 0, .str [], .bool false, .int .u64 0, .sl true [], .sl true [], .str [], .str []]⟩ := ⟨by kernel_rfl, by kernel_rfl, by kernel_rfl, by kernel_rfl⟩
theorem row68 : RowOk Tryz.prog 68 ⟨.struct [(0, 3), (1, 9), (2, 4), (3, 51), (4, 66), (5, 27), (6, 9), (7, 9)], 8, 120, .agg [.int .i64 0, .str [], .bool false, .int .u64 0, .sl true [], .sl true [], .str [], .str []]⟩ := ⟨by kernel_rfl, by kernel_rfl, by kernel_rfl, by kernel_rfl⟩
theorem row69 : RowOk Tryz.prog 69 ⟨.struct [(0, 9), (1, 4), (2, 68), (10, 9)], 11, 160, .agg [.str [], .bool false, .int .i64 0, .str [], .bool false, .int .u64 0, .sl true [], .sl true [], .str [], .str [], .str []]⟩ := ⟨by kernel_rfl, by kernel_rfl, by kernel_rfl, by kernel_rfl⟩
theorem row70 : RowOk Tryz.prog 70 ⟨.struct [(0, 9), (1, 4), (2, 68), (10, 9)], 11, 160, .agg [.str [], .bool false, .int .i64 0, .str [], .bool false, .int .u64 0, .sl true [], .sl true [], .str [], .str [], .str []]⟩ := ⟨by kernel_rfl, by kernel_rfl, by kernel_rfl, by kernel_rfl⟩
theorem row71 : RowOk Tryz.prog 71 ⟨.func, 1, 8, .nilf⟩ := ⟨by kernel_rfl, by kernel_rfl, by kernel_rfl, by kernel_rfl⟩
theorem row72 : RowOk Tryz.prog 72 ⟨.sl 153, 1, 24, .sl true []⟩ := ⟨by kernel_rfl, by kernel_rfl, by kernel_rfl, by kernel_rfl⟩
theorem row73 : RowOk Tryz.prog 73 ⟨.struct [(0, 31), (1, 9), (2, 3), (3, 3), (4, 72)], 5, 72, .agg [.nili, .str [], .int .i64 0, .int .i64 0, .sl true []]⟩ := ⟨by kernel_rfl, by kernel_rfl, by kernel_rfl, by kernel_rfl⟩
theorem row74 : RowOk Tryz.prog 74 ⟨.struct [(0, 31), (1, 9), (2, 3), (3, 3), (4, 72)], 5, 72, .agg [.nili, .str [], .int .i64 0, .int .i64 0, .sl true []]⟩ := ⟨by kernel_rfl, by kernel_rfl, by kernel_rfl, by kernel_rfl⟩
theorem row75 : RowOk Tryz.prog 75 ⟨.func, 1, 8, .nilf⟩ := ⟨by kernel_rfl, by kernel_rfl, by kernel_rfl, by kernel_rfl⟩
theorem row76 : RowOk Tryz.prog 76 ⟨.func, 1, 8, .nilf⟩ := ⟨by kernel_rfl, by kernel_rfl, by kernel_rfl, by kernel_rfl⟩
theorem row77 : RowOk Tryz.prog 77 ⟨.func, 1, 8, .nilf⟩ := ⟨by kernel_rfl, by kernel_rfl, by kernel_rfl, by kernel_rfl⟩
theorem row78 : RowOk Tryz.prog 78 ⟨.sl 241, 1, 24, .sl true []⟩ := ⟨by kernel_rfl, by kernel_rfl, by kernel_rfl, by kernel_rfl⟩
theorem row79 : RowOk Tryz.prog 79 ⟨.int .u32, 1, 4, .int .u32 0⟩ := ⟨by kernel_rfl, by kernel_rfl, by kernel_rfl, by kernel_rfl⟩
theorem row80 : RowOk Tryz.prog 80 ⟨.struct [(0, 27), (1, 51), (2, 51), (3, 3), (4, 51), (5, 78), (6, 79), (7, 9)], 8, 104, .agg [.sl true [], .int .u64 0, .int .u64 0, .int .i64 0, .int .u64 0, .sl true [], .int .u32 0, .str []]⟩ := ⟨by kernel_rfl, by kernel_rfl, by kernel_rfl, by kernel_rfl⟩
theorem row81 : RowOk Tryz.prog 81 ⟨.struct [(0, 27), (1, 51), (2, 51), (3, 3), (4, 51), (5, 78), (6, 79), (7, 9)], 8, 104, .agg [.sl true [], .int .u64 0, .int .u64 0, .int .i64 0, .int .u64 0, .sl true [], .int .u32 0, .str []]⟩ := ⟨by kernel_rfl, by kernel_rfl, by kernel_rfl, by kernel_rfl⟩
theorem row82 : RowOk Tryz.prog 82 ⟨.func, 1, 8, .nilf⟩ := ⟨by kernel_rfl, by kernel_rfl, by kernel_rfl, by kernel_rfl⟩
theorem row83 : RowOk Tryz.prog 83 ⟨.struct [(0, 4), (1, 51)], 2, 16, .agg [.bool false, .int .u64 0]⟩ := ⟨by kernel_rfl, by kernel_rfl, by kernel_rfl, by kernel_rfl⟩
theorem row84 : RowOk Tryz.prog 84 ⟨.struct [(0, 4), (1, 51)], 2, 16, .agg [.bool false, .int .u64 0]⟩ := ⟨by kernel_rfl, by kernel_rfl, by kernel_rfl, by kernel_rfl⟩
theorem row85 : RowOk Tryz.prog 85 ⟨.sl 51, 1, 24, .sl true []⟩ := ⟨by kernel_rfl, by kernel_rfl, by kernel_rfl, by kernel_rfl⟩
theorem row86 : RowOk Tryz.prog 86 ⟨.struct [(0, 27), (1, 51), (2, 51), (3, 51), (4, 84), (6, 84), (8, 84), (10, 85), (11, 85), (12, 78), (13, 79), (14, 9)], 15, 192, .agg [.sl true [], .int .u64 0, .int .u64 0, .int .u64 0, .bool false, .int .u64 0, .bool false, .int .u64 0, .bool false, .int .u64 0, .sl true [], .sl true [], .sl true [], .int .u32 0, .str []]⟩ := ⟨by kernel_rfl, by kernel_rfl, by kernel_rfl, by kernel_rfl⟩
theorem row87 : RowOk Tryz.prog 87 ⟨.struct [(0, 27), (1, 51), (2, 51), (3, 51), (4, 84), (6, 84), (8, 84), (10, 85), (11, 85), (12, 78), (13, 79), (14, 9)], 15, 192, .agg [.sl true [], .int .u64 0, .int .u64 0, .int .u64 0, .bool false, .int .u64 0, .bool false, .int .u64 0, .bool false, .int .u64 0, .sl true [], .sl true [], .sl true [], .int .u32 0, .str []]⟩ := ⟨by kernel_rfl, by kernel_rfl, by kernel_rfl, by kernel_rfl⟩
theorem row88 : RowOk Tryz.prog 88 ⟨.func, 1, 8, .nilf⟩ := ⟨by kernel_rfl, by kernel_rfl, by kernel_rfl, by kernel_rfl⟩
theorem row89 : RowOk Tryz.prog 89 ⟨.struct [(0, 21), (1, 85), (2, 9)], 3, 48, .agg [.int .i32 0, .sl true [], .str []]⟩ := ⟨by kernel_rfl, by kernel_rfl, by kernel_rfl, by kernel_rfl⟩
theorem row90 : RowOk Tryz.prog 90 ⟨.struct [(0, 21), (1, 85), (2, 9)], 3, 48, .agg [.int .i32 0, .sl true [], .str []]⟩ := ⟨by kernel_rfl, by kernel_rfl, by kernel_rfl, by kernel_rfl⟩
theorem row91 : RowOk Tryz.prog 91 ⟨.struct [(0, 27), (1, 51), (2, 51), (3, 51), (4, 84), (6, 84), (8, 84), (10, 21), (11, 51), (12, 4), (13, 90), (16, 4), (17, 90), (20, 78), (21, 79), (22, 51), (23, 9)], 24, 280, .agg [.sl true [], .int .u64 0, .int .u64 0, .int .u64 0, .bool false, .int .u64 0, .bool false, .int .u64 0, .bool false, .int .u64 0, .int .i32 0, .int .u64 0, .bool false, .int .i32 0, .sl true [], .str [], .bool false, .int .i32 0, .sl true [], .str [], .sl true [], .int .u32 0, .int .u64 0, .str []]⟩ := ⟨by kernel_rfl, by kernel_rfl, by kernel_rfl, by kernel_rfl⟩
theorem row92 : RowOk Tryz.prog 92 ⟨.struct [(0, 27), (1, 51), (2, 51), (3, 51), (4, 84), (6, 84), (8, 84), (10, 21), (11, 51), (12, 4), (13, 90), (16, 4), (17, 90), (20, 78), (21, 79), (22, 51), (23, 9)], 24, 280, .agg [.sl true [], .int .u64 0, .int .u64 0, .int .u64 0, .bool false, .int .u64 0, .bool false, .int .u64 0, .bool false, .int .u64 0, .int .i32 0, .int .u64 0, .bool false, .int .i32 0, .sl true [], .str [], .bool false, .int .i32 0, .sl true [], .str [], .sl true [], .int .u32 0, .int .u64 0, .str []]⟩ := ⟨by kernel_rfl, by kernel_rfl, by kernel_rfl, by kernel_rfl⟩
theorem row93 : RowOk Tryz.prog 93 ⟨.func, 1, 8, .nilf⟩ := ⟨by kernel_rfl, by kernel_rfl, by kernel_rfl, by kernel_rfl⟩
theorem row94 : RowOk Tryz.prog 94 ⟨.sl 180, 1, 24, .sl true []⟩ := ⟨by kernel_rfl, by kernel_rfl, by kernel_rfl, by kernel_rfl⟩
theorem row95 : RowOk Tryz.prog 95 ⟨.struct [(0, 27), (1, 51), (2, 51), (3, 51), (4, 51), (5, 94), (6, 79), (7, 9)], 8, 104, .agg [.sl true [], .int .u64 0, .int .u64 0, .int .u64 0, .int .u64 0, .sl true [], .int .u32 0, .str []]⟩ := ⟨by kernel_rfl, by kernel_rfl, by kernel_rfl, by kernel_rfl⟩
theorem row96 : RowOk Tryz.prog 96 ⟨.struct [(0, 27), (1, 51), (2, 51), (3, 51), (4, 51), (5, 94), (6, 79), (7, 9)], 8, 104, .agg [.sl true [], .int .u64 0, .int .u64 0, .int .u64 0, .int .u64 0, .sl true [], .int .u32 0, .str []]⟩ := ⟨by kernel_rfl, by kernel_rfl, by kernel_rfl, by kernel_rfl⟩
theorem row97 : RowOk Tryz.prog 97 ⟨.ptr, 1, 8, .nilp⟩ := ⟨by kernel_rfl, by kernel_rfl, by kernel_rfl, by kernel_rfl⟩
theorem row98 : RowOk Tryz.prog 98 ⟨.sl 5, 1, 24, .sl true []⟩ := ⟨by kernel_rfl, by kernel_rfl, by kernel_rfl, by kernel_rfl⟩
theorem row99 : RowOk Tryz.prog 99 ⟨.struct [(0, 97), (1, 98)], 2, 32, .agg [.nilp, .sl true []]⟩ := ⟨by kernel_rfl, by kernel_rfl, by kernel_rfl, by kernel_rfl⟩
theorem row100 : RowOk Tryz.prog 100 ⟨.struct [(0, 97), (1, 98)], 2, 32, .agg [.nilp, .sl true []]⟩ := ⟨by kernel_rfl, by kernel_rfl, by kernel_rfl, by kernel_rfl⟩
theorem row101 : RowOk Tryz.prog 101 ⟨.struct [(0, 100)], 2, 32, .agg [.nilp, .sl true []]⟩ := ⟨by kernel_rfl, by kernel_rfl, by kernel_rfl, by kernel_rfl⟩
theorem row102 : RowOk Tryz.prog 102 ⟨.struct [(0, 100)], 2, 32, .agg [.nilp, .sl true []]⟩ := ⟨by kernel_rfl, by kernel_rfl, by kernel_rfl, by kernel_rfl⟩
theorem row103 : RowOk Tryz.prog 103 ⟨.func, 1, 8, .nilf⟩ := ⟨by kernel_rfl, by kernel_rfl, by kernel_rfl, by kernel_rfl⟩
theorem row104 : RowOk Tryz.prog 104 ⟨.func, 1, 8, .nilf⟩ := ⟨by kernel_rfl, by kernel_rfl, by kernel_rfl, by kernel_rfl⟩
theorem row105 : RowOk Tryz.prog 105 ⟨.func, 1, 8, .nilf⟩ := ⟨by kernel_rfl, by kernel_rfl, by kernel_rfl, by kernel_rfl⟩
theorem row106 : RowOk Tryz.prog 106 ⟨.ptr, 1, 8, .nilp⟩ := ⟨by kernel_rfl, by kernel_rfl, by kernel_rfl, by kernel_rfl⟩
theorem row107 : RowOk Tryz.prog 107 ⟨.func, 1, 8, .nilf⟩ := ⟨by kernel_rfl, by kernel_rfl, by kernel_rfl, by kernel_rfl⟩
theorem row108 : RowOk Tryz.prog 108 ⟨.func, 1, 8, .nilf⟩ := ⟨by kernel_rfl, by kernel_rfl, by kernel_rfl, by kernel_rfl⟩
theorem row109 : RowOk Tryz.prog 109 ⟨.func, 1, 8, .nilf⟩ := ⟨by kernel_rfl, by kernel_rfl, by kernel_rfl, by kernel_rfl⟩
theorem row110 : RowOk Tryz.prog 110 ⟨.sl 114, 1, 24, .sl true []⟩ := ⟨by kernel_rfl, by kernel_rfl, by kernel_rfl, by kernel_rfl⟩
theorem row112 : RowOk Tryz.prog 112 ⟨.func, 1, 8, .nilf⟩ := ⟨by kernel_rfl, by kernel_rfl, by kernel_rfl, by kernel_rfl⟩
theorem row113 : RowOk Tryz.prog 113 ⟨.struct [(0, 3), (1, 3), (2, 51), (3, 9), (4, 9)], 5, 56, .agg [.int .i64 0, .int .i64 0, .int .u64 0, .str [], .str []]⟩ := ⟨by kernel_rfl, by kernel_rfl, by kernel_rfl, by kernel_rfl⟩
theorem row114 : RowOk Tryz.prog 114 ⟨.struct [(0, 3), (1, 3), (2, 51), (3, 9), (4, 9)], 5, 56, .agg [.int .i64 0, .int .i64 0, .int .u64 0, .str [], .str []]⟩ := ⟨by kernel_rfl, by kernel_rfl, by kernel_rfl, by kernel_rfl⟩
theorem row115 : RowOk Tryz.prog 115 ⟨.func, 1, 8, .nilf⟩ := ⟨by kernel_rfl, by kernel_rfl, by kernel_rfl, by kernel_rfl⟩
theorem row116 : RowOk Tryz.prog 116 ⟨.sl 3, 1, 24, .sl true []⟩ := ⟨by kernel_rfl, by kernel_rfl, by kernel_rfl, by kernel_rfl⟩
theorem row117 : RowOk Tryz.prog 117 ⟨.func, 1, 8, .nilf⟩ := ⟨by kernel_rfl, by kernel_rfl, by kernel_rfl, by kernel_rfl⟩
theorem row118 : RowOk Tryz.prog 118 ⟨.func, 1, 8, .nilf⟩ := ⟨by kernel_rfl, by kernel_rfl, by kernel_rfl, by kernel_rfl⟩
theorem row120 : RowOk Tryz.prog 120 ⟨.func, 1, 8, .nilf⟩ := ⟨by kernel_rfl, by kernel_rfl, by kernel_rfl, by kernel_rfl⟩
theorem row121 : RowOk Tryz.prog 121 ⟨.func, 1, 8, .nilf⟩ := ⟨by kernel_rfl, by kernel_rfl, by kernel_rfl, by kernel_rfl⟩
theorem row123 : RowOk Tryz.prog 123 ⟨.func, 1, 8, .nilf⟩ := ⟨by kernel_rfl, by kernel_rfl, by kernel_rfl, by kernel_rfl⟩
theorem row124 : RowOk Tryz.prog 124 ⟨.func, 1, 8, .nilf⟩ := ⟨by kernel_rfl, by kernel_rfl, by kernel_rfl, by kernel_rfl⟩
theorem row125 : RowOk Tryz.prog 125 ⟨.func, 1, 8, .nilf⟩ := ⟨by kernel_rfl, by kernel_rfl, by kernel_rfl, by kernel_rfl⟩
theorem row126 : RowOk Tryz.prog 126 ⟨.func, 1, 8, .nilf⟩ := ⟨by kernel_rfl, by kernel_rfl, by kernel_rfl, by kernel_rfl⟩
theorem row127 : RowOk Tryz.prog 127 ⟨.func, 1, 8, .nilf⟩ := ⟨by kernel_rfl, by kernel_rfl, by kernel_rfl, by kernel_rfl⟩
theorem row128 : RowOk Tryz.prog 128 ⟨.func, 1, 8, .nilf⟩ := ⟨by kernel_rfl, by kernel_rfl, by kernel_rfl, by kernel_rfl⟩
theorem row129 : RowOk Tryz.prog 129 ⟨.func, 1, 8, .nilf⟩ := ⟨by kernel_rfl, by kernel_rfl, by kernel_rfl, by kernel_rfl⟩
theorem row130 : RowOk Tryz.prog 130 ⟨.int .u64, 1, 8, .int .u64 0⟩ := ⟨by kernel_rfl, by kernel_rfl, by kernel_rfl, by kernel_rfl⟩
theorem row131 : RowOk Tryz.prog 131 ⟨.func, 1, 8, .nilf⟩ := ⟨by kernel_rfl, by kernel_rfl, by kernel_rfl, by kernel_rfl⟩
theorem row132 : RowOk Tryz.prog 132 ⟨.ptr, 1, 8, .nilp⟩ := ⟨by kernel_rfl, by kernel_rfl, by kernel_rfl, by kernel_rfl⟩
theorem row133 : RowOk Tryz.prog 133 ⟨.func, 1, 8, .nilf⟩ := ⟨by kernel_rfl, by kernel_rfl, by kernel_rfl, by kernel_rfl⟩
theorem row134 : RowOk Tryz.prog 134 ⟨.func, 1, 8, .nilf⟩ := ⟨by kernel_rfl, by kernel_rfl, by kernel_rfl, by kernel_rfl⟩
theorem row135 : RowOk Tryz.prog 135 ⟨.func, 1, 8, .nilf⟩ := ⟨by kernel_rfl, by kernel_rfl, by kernel_rfl, by kernel_rfl⟩
theorem row136 : RowOk Tryz.prog 136 ⟨.func, 1, 8, .nilf⟩ := ⟨by kernel_rfl, by kernel_rfl, by kernel_rfl, by kernel_rfl⟩
theorem row137 : RowOk Tryz.prog 137 ⟨.func, 1, 8, .nilf⟩ := ⟨by kernel_rfl, by kernel_rfl, by kernel_rfl, by kernel_rfl⟩
theorem row138 : RowOk Tryz.prog 138 ⟨.func, 1, 8, .nilf⟩ := ⟨by kernel_rfl, by kernel_rfl, by kernel_rfl, by kernel_rfl⟩
theorem row139 : RowOk Tryz.prog 139 ⟨.func, 1, 8, .nilf⟩ := ⟨by kernel_rfl, by kernel_rfl, by kernel_rfl, by kernel_rfl⟩
theorem row140 : RowOk Tryz.prog 140 ⟨.func, 1, 8, .nilf⟩ := ⟨by kernel_rfl, by kernel_rfl, by kernel_rfl, by kernel_rfl⟩
theorem row141 : RowOk Tryz.prog 141 ⟨.func, 1, 8, .nilf⟩ := ⟨by kernel_rfl, by kernel_rfl, by kernel_rfl, by kernel_rfl⟩
theorem row142 : RowOk Tryz.prog 142 ⟨.func, 1, 8, .nilf⟩ := ⟨by kernel_rfl, by kernel_rfl, by kernel_rfl, by kernel_rfl⟩
theorem row143 : RowOk Tryz.prog 143 ⟨.func, 1, 8, .nilf⟩ := ⟨by kernel_rfl, by kernel_rfl, by kernel_rfl, by kernel_rfl⟩
theorem row144 : RowOk Tryz.prog 144 ⟨.func, 1, 8, .nilf⟩ := ⟨by kernel_rfl, by kernel_rfl, by kernel_rfl, by kernel_rfl⟩
theorem row145 : RowOk Tryz.prog 145 ⟨.func, 1, 8, .nilf⟩ := ⟨by kernel_rfl, by kernel_rfl, by kernel_rfl, by kernel_rfl⟩
theorem row146 : RowOk Tryz.prog 146 ⟨.func, 1, 8, .nilf⟩ := ⟨by kernel_rfl, by kernel_rfl, by kernel_rfl, by kernel_rfl⟩
theorem row147 : RowOk Tryz.prog 147 ⟨.func, 1, 8, .nilf⟩ := ⟨by kernel_rfl, by kernel_rfl, by kernel_rfl, by kernel_rfl⟩
theorem row148 : RowOk Tryz.prog 148 ⟨.func, 1, 8, .nilf⟩ := ⟨by kernel_rfl, by kernel_rfl, by kernel_rfl, by kernel_rfl⟩
theorem row149 : RowOk Tryz.prog 149 ⟨.func, 1, 8, .nilf⟩ := ⟨by kernel_rfl, by kernel_rfl, by kernel_rfl, by kernel_rfl⟩
theorem row150 : RowOk Tryz.prog 150 ⟨.func, 1, 8, .nilf⟩ := ⟨by kernel_rfl, by kernel_rfl, by kernel_rfl, by kernel_rfl⟩
theorem row152 : RowOk Tryz.prog 152 ⟨.func, 1, 8, .nilf⟩ := ⟨by kernel_rfl, by kernel_rfl, by kernel_rfl, by kernel_rfl⟩
theorem row153 : RowOk Tryz.prog 153 ⟨.struct [(0, 3), (1, 3), (2, 51), (3, 9), (4, 9)], 5, 56, .agg [.int .i64 0, .int .i64 0, .int .u64 0, .str [], .str []]⟩ := ⟨by kernel_rfl, by kernel_rfl, by kernel_rfl, by kernel_rfl⟩
theorem row155 : RowOk Tryz.prog 155 ⟨.func, 1, 8, .nilf⟩ := ⟨by kernel_rfl, by kernel_rfl, by kernel_rfl, by kernel_rfl⟩
theorem row156 : RowOk Tryz.prog 156 ⟨.func, 1, 8, .nilf⟩ := ⟨by kernel_rfl, by kernel_rfl, by kernel_rfl, by kernel_rfl⟩
theorem row157 : RowOk Tryz.prog 157 ⟨.func, 1, 8, .nilf⟩ := ⟨by kernel_rfl, by kernel_rfl, by kernel_rfl, by kernel_rfl⟩
theorem row158 : RowOk Tryz.prog 158 ⟨.func, 1, 8, .nilf⟩ := ⟨by kernel_rfl, by kernel_rfl, by kernel_rfl, by kernel_rfl⟩
theorem row159 : RowOk Tryz.prog 159 ⟨.func, 1, 8, .nilf⟩ := ⟨by kernel_rfl, by kernel_rfl, by kernel_rfl, by kernel_rfl⟩
theorem row160 : RowOk Tryz.prog 160 ⟨.func, 1, 8, .nilf⟩ := ⟨by kernel_rfl, by kernel_rfl, by kernel_rfl, by kernel_rfl⟩
theorem row161 : RowOk Tryz.prog 161 ⟨.func, 1, 8, .nilf⟩ := ⟨by kernel_rfl, by kernel_rfl, by kernel_rfl, by kernel_rfl⟩
theorem row162 : RowOk Tryz.prog 162 ⟨.func, 1, 8, .nilf⟩ := ⟨by kernel_rfl, by kernel_rfl, by kernel_rfl, by kernel_rfl⟩
theorem row163 : RowOk Tryz.prog 163 ⟨.func, 1, 8, .nilf⟩ := ⟨by kernel_rfl, by kernel_rfl, by kernel_rfl, by kernel_rfl⟩
theorem row164 : RowOk Tryz.prog 164 ⟨.func, 1, 8, .nilf⟩ := ⟨by kernel_rfl, by kernel_rfl, by kernel_rfl, by kernel_rfl⟩
theorem row165 : RowOk Tryz.prog 165 ⟨.func, 1, 8, .nilf⟩ := ⟨by kernel_rfl, by kernel_rfl, by kernel_rfl, by kernel_rfl⟩
theorem row166 : RowOk Tryz.prog 166 ⟨.func, 1, 8, .nilf⟩ := ⟨by kernel_rfl, by kernel_rfl, by kernel_rfl, by kernel_rfl⟩
theorem row167 : RowOk Tryz.prog 167 ⟨.func, 1, 8, .nilf⟩ := ⟨by kernel_rfl, by kernel_rfl, by kernel_rfl, by kernel_rfl⟩
theorem row168 : RowOk Tryz.prog 168 ⟨.func, 1, 8, .nilf⟩ := ⟨by kernel_rfl, by kernel_rfl, by kernel_rfl, by kernel_rfl⟩
theorem row169 : RowOk Tryz.prog 169 ⟨.func, 1, 8, .nilf⟩ := ⟨by kernel_rfl, by kernel_rfl, by kernel_rfl, by kernel_rfl⟩
theorem row170 : RowOk Tryz.prog 170 ⟨.func, 1, 8, .nilf⟩ := ⟨by kernel_rfl, by kernel_rfl, by kernel_rfl, by kernel_rfl⟩
theorem row171 : RowOk Tryz.prog 171 ⟨.func, 1, 8, .nilf⟩ := ⟨by kernel_rfl, by kernel_rfl, by kernel_rfl, by kernel_rfl⟩
theorem row172 : RowOk Tryz.prog 172 ⟨.func, 1, 8, .nilf⟩ := ⟨by kernel_rfl, by kernel_rfl, by kernel_rfl, by kernel_rfl⟩
theorem row174 : RowOk Tryz.prog 174 ⟨.func, 1, 8, .nilf⟩ := ⟨by kernel_rfl, by kernel_rfl, by kernel_rfl, by kernel_rfl⟩
theorem row175 : RowOk Tryz.prog 175 ⟨.func, 1, 8, .nilf⟩ := ⟨by kernel_rfl, by kernel_rfl, by kernel_rfl, by kernel_rfl⟩
theorem row176 : RowOk Tryz.prog 176 ⟨.func, 1, 8, .nilf⟩ := ⟨by kernel_rfl, by kernel_rfl, by kernel_rfl, by kernel_rfl⟩
theorem row177 : RowOk Tryz.prog 177 ⟨.func, 1, 8, .nilf⟩ := ⟨by kernel_rfl, by kernel_rfl, by kernel_rfl, by kernel_rfl⟩
theorem row178 : RowOk Tryz.prog 178 ⟨.func, 1, 8, .nilf⟩ := ⟨by kernel_rfl, by kernel_rfl, by kernel_rfl, by kernel_rfl⟩
theorem row179 : RowOk Tryz.prog 179 ⟨.struct [(0, 51), (1, 51), (2, 9)], 3, 32, .agg [.int .u64 0, .int .u64 0, .str []]⟩ := ⟨by kernel_rfl, by kernel_rfl, by kernel_rfl, by kernel_rfl⟩
theorem row180 : RowOk Tryz.prog 180 ⟨.struct [(0, 51), (1, 51), (2, 9)], 3, 32, .agg [.int .u64 0, .int .u64 0, .str []]⟩ := ⟨by kernel_rfl, by kernel_rfl, by kernel_rfl, by kernel_rfl⟩
theorem row181 : RowOk Tryz.prog 181 ⟨.func, 1, 8, .nilf⟩ := ⟨by kernel_rfl, by kernel_rfl, by kernel_rfl, by kernel_rfl⟩
theorem row182 : RowOk Tryz.prog 182 ⟨.func, 1, 8, .nilf⟩ := ⟨by kernel_rfl, by kernel_rfl, by kernel_rfl, by kernel_rfl⟩
theorem row183 : RowOk Tryz.prog 183 ⟨.func, 1, 8, .nilf⟩ := ⟨by kernel_rfl, by kernel_rfl, by kernel_rfl, by kernel_rfl⟩
theorem row184 : RowOk Tryz.prog 184 ⟨.func, 1, 8, .nilf⟩ := ⟨by kernel_rfl, by kernel_rfl, by kernel_rfl, by kernel_rfl⟩
theorem row185 : RowOk Tryz.prog 185 ⟨.func, 1, 8, .nilf⟩ := ⟨by kernel_rfl, by kernel_rfl, by kernel_rfl, by kernel_rfl⟩
theorem row186 : RowOk Tryz.prog 186 ⟨.func, 1, 8, .nilf⟩ := ⟨by kernel_rfl, by kernel_rfl, by kernel_rfl, by kernel_rfl⟩
theorem row187 : RowOk Tryz.prog 187 ⟨.func, 1, 8, .nilf⟩ := ⟨by kernel_rfl, by kernel_rfl, by kernel_rfl, by kernel_rfl⟩
theorem row188 : RowOk Tryz.prog 188 ⟨.func, 1, 8, .nilf⟩ := ⟨by kernel_rfl, by kernel_rfl, by kernel_rfl, by kernel_rfl⟩
theorem row189 : RowOk Tryz.prog 189 ⟨.func, 1, 8, .nilf⟩ := ⟨by kernel_rfl, by kernel_rfl, by kernel_rfl, by kernel_rfl⟩
theorem row190 : RowOk Tryz.prog 190 ⟨.func, 1, 8, .nilf⟩ := ⟨by kernel_rfl, by kernel_rfl, by kernel_rfl, by kernel_rfl⟩
theorem row191 : RowOk Tryz.prog 191 ⟨.func, 1, 8, .nilf⟩ := ⟨by kernel_rfl, by kernel_rfl, by kernel_rfl, by kernel_rfl⟩
theorem row192 : RowOk Tryz.prog 192 ⟨.func, 1, 8, .nilf⟩ := ⟨by kernel_rfl, by kernel_rfl, by kernel_rfl, by kernel_rfl⟩
theorem row193 : RowOk Tryz.prog 193 ⟨.func, 1, 8, .nilf⟩ := ⟨by kernel_rfl, by kernel_rfl, by kernel_rfl, by kernel_rfl⟩
theorem row194 : RowOk Tryz.prog 194 ⟨.func, 1, 8, .nilf⟩ := ⟨by kernel_rfl, by kernel_rfl, by kernel_rfl, by kernel_rfl⟩
theorem row196 : RowOk Tryz.prog 196 ⟨.func, 1, 8, .nilf⟩ := ⟨by kernel_rfl, by kernel_rfl, by kernel_rfl, by kernel_rfl⟩
theorem row198 : RowOk Tryz.prog 198 ⟨.func, 1, 8, .nilf⟩ := ⟨by kernel_rfl, by kernel_rfl, by kernel_rfl, by kernel_rfl⟩
theorem row200 : RowOk Tryz.prog 200 ⟨.func, 1, 8, .nilf⟩ := ⟨by kernel_rfl, by kernel_rfl, by kernel_rfl, by kernel_rfl⟩
theorem row202 : RowOk Tryz.prog 202 ⟨.func, 1, 8, .nilf⟩ := ⟨by kernel_rfl, by kernel_rfl, by kernel_rfl, by kernel_rfl⟩
theorem row203 : RowOk Tryz.prog 203 ⟨.ptr, 1, 8, .nilp⟩ := ⟨by kernel_rfl, by kernel_rfl, by kernel_rfl, by kernel_rfl⟩
theorem row204 : RowOk Tryz.prog 204 ⟨.ptr, 1, 8, .nilp⟩ := ⟨by kernel_rfl, by kernel_rfl, by kernel_rfl, by kernel_rfl⟩
theorem row205 : RowOk Tryz.prog 205 ⟨.struct [(0, 3), (1, 31)], 2, 24, .agg [.int .i64 0, .nili]⟩ := ⟨by kernel_rfl, by kernel_rfl, by kernel_rfl, by kernel_rfl⟩
theorem row206 : RowOk Tryz.prog 206 ⟨.struct [(0, 3), (1, 31)], 2, 24, .agg [.int .i64 0, .nili]⟩ := ⟨by kernel_rfl, by kernel_rfl, by kernel_rfl, by kernel_rfl⟩
theorem row207 : RowOk Tryz.prog 207 ⟨.func, 1, 8, .nilf⟩ := ⟨by kernel_rfl, by kernel_rfl, by kernel_rfl, by kernel_rfl⟩
theorem row208 : RowOk Tryz.prog 208 ⟨.func, 1, 8, .nilf⟩ := ⟨by kernel_rfl, by kernel_rfl, by kernel_rfl, by kernel_rfl⟩
theorem row209 : RowOk Tryz.prog 209 ⟨.func, 1, 8, .nilf⟩ := ⟨by kernel_rfl, by kernel_rfl, by kernel_rfl, by kernel_rfl⟩
theorem row210 : RowOk Tryz.prog 210 ⟨.func, 1, 8, .nilf⟩ := ⟨by kernel_rfl, by kernel_rfl, by kernel_rfl, by kernel_rfl⟩
theorem row211 : RowOk Tryz.prog 211 ⟨.func, 1, 8, .nilf⟩ := ⟨by kernel_rfl, by kernel_rfl, by kernel_rfl, by kernel_rfl⟩
theorem row216 : RowOk Tryz.prog 216 ⟨.func, 1, 8, .nilf⟩ := ⟨by kernel_rfl, by kernel_rfl, by kernel_rfl, by kernel_rfl⟩
theorem row217 : RowOk Tryz.prog 217 ⟨.iface, 1, 16, .nili⟩ := ⟨by kernel_rfl, by kernel_rfl, by kernel_rfl, by kernel_rfl⟩
theorem row219 : RowOk Tryz.prog 219 ⟨.func, 1, 8, .nilf⟩ := ⟨by kernel_rfl, by kernel_rfl, by kernel_rfl, by kernel_rfl⟩
theorem row221 : RowOk Tryz.prog 221 ⟨.func, 1, 8, .nilf⟩ := ⟨by kernel_rfl, by kernel_rfl, by kernel_rfl, by kernel_rfl⟩
theorem row222 : RowOk Tryz.prog 222 ⟨.func, 1, 8, .nilf⟩ := ⟨by kernel_rfl, by kernel_rfl, by kernel_rfl, by kernel_rfl⟩
theorem row223 : RowOk Tryz.prog 223 ⟨.func, 1, 8, .nilf⟩ := ⟨by kernel_rfl, by kernel_rfl, by kernel_rfl, by kernel_rfl⟩
theorem row224 : RowOk Tryz.prog 224 ⟨.func, 1, 8, .nilf⟩ := ⟨by kernel_rfl, by kernel_rfl, by kernel_rfl, by kernel_rfl⟩
theorem row225 : RowOk Tryz.prog 225 ⟨.func, 1, 8, .nilf⟩ := ⟨by kernel_rfl, by kernel_rfl, by kernel_rfl, by kernel_rfl⟩
theorem row226 : RowOk Tryz.prog 226 ⟨.func, 1, 8, .nilf⟩ := ⟨by kernel_rfl, by kernel_rfl, by kernel_rfl, by kernel_rfl⟩
theorem row227 : RowOk Tryz.prog 227 ⟨.func, 1, 8, .nilf⟩ := ⟨by kernel_rfl, by kernel_rfl, by kernel_rfl, by kernel_rfl⟩
theorem row228 : RowOk Tryz.prog 228 ⟨.sl 4, 1, 24, .sl true []⟩ := ⟨by kernel_rfl, by kernel_rfl, by kernel_rfl, by kernel_rfl⟩
theorem row229 : RowOk Tryz.prog 229 ⟨.func, 1, 8, .nilf⟩ := ⟨by kernel_rfl, by kernel_rfl, by kernel_rfl, by kernel_rfl⟩
theorem row230 : RowOk Tryz.prog 230 ⟨.func, 1, 8, .nilf⟩ := ⟨by kernel_rfl, by kernel_rfl, by kernel_rfl, by kernel_rfl⟩
theorem row231 : RowOk Tryz.prog 231 ⟨.func, 1, 8, .nilf⟩ := ⟨by kernel_rfl, by kernel_rfl, by kernel_rfl, by kernel_rfl⟩
theorem row232 : RowOk Tryz.prog 232 ⟨.func, 1, 8, .nilf⟩ := ⟨by kernel_rfl, by kernel_rfl, by kernel_rfl, by kernel_rfl⟩
theorem row233 : RowOk Tryz.prog 233 ⟨.func, 1, 8, .nilf⟩ := ⟨by kernel_rfl, by kernel_rfl, by kernel_rfl, by kernel_rfl⟩
theorem row234 : RowOk Tryz.prog 234 ⟨.func, 1, 8, .nilf⟩ := ⟨by kernel_rfl, by kernel_rfl, by kernel_rfl, by kernel_rfl⟩
theorem row235 : RowOk Tryz.prog 235 ⟨.func, 1, 8, .nilf⟩ := ⟨by kernel_rfl, by kernel_rfl, by kernel_rfl, by kernel_rfl⟩
theorem row236 : RowOk Tryz.prog 236 ⟨.func, 1, 8, .nilf⟩ := ⟨by kernel_rfl, by kernel_rfl, by kernel_rfl, by kernel_rfl⟩
theorem row237 : RowOk Tryz.prog 237 ⟨.func, 1, 8, .nilf⟩ := ⟨by kernel_rfl, by kernel_rfl, by kernel_rfl, by kernel_rfl⟩
theorem row238 : RowOk Tryz.prog 238 ⟨.func, 1, 8, .nilf⟩ := ⟨by kernel_rfl, by kernel_rfl, by kernel_rfl, by kernel_rfl⟩
theorem row239 : RowOk Tryz.prog 239 ⟨.func, 1, 8, .nilf⟩ := ⟨by kernel_rfl, by kernel_rfl, by kernel_rfl, by kernel_rfl⟩
theorem row240 : RowOk Tryz.prog 240 ⟨.struct [(0, 27), (1, 51), (2, 3), (3, 51), (4, 9), (5, 9), (6, 9)], 7, 96, .agg [.sl true [], .int .u64 0, .int .i64 0, .int .u64 0, .str [], .str [], .str []]⟩ := ⟨by kernel_rfl, by kernel_rfl, by kernel_rfl, by kernel_rfl⟩
theorem row241 : RowOk Tryz.prog 241 ⟨.struct [(0, 27), (1, 51), (2, 3), (3, 51), (4, 9), (5, 9), (6, 9)], 7, 96, .agg [.sl true [], .int .u64 0, .int .i64 0, .int .u64 0, .str [], .str [], .str []]⟩ := ⟨by kernel_rfl, by kernel_rfl, by kernel_rfl, by kernel_rfl⟩
theorem row242 : RowOk Tryz.prog 242 ⟨.func, 1, 8, .nilf⟩ := ⟨by kernel_rfl, by kernel_rfl, by kernel_rfl, by kernel_rfl⟩
theorem row243 : RowOk Tryz.prog 243 ⟨.func, 1, 8, .nilf⟩ := ⟨by kernel_rfl, by kernel_rfl, by kernel_rfl, by kernel_rfl⟩
theorem row244 : RowOk Tryz.prog 244 ⟨.func, 1, 8, .nilf⟩ := ⟨by kernel_rfl, by kernel_rfl, by kernel_rfl, by kernel_rfl⟩
theorem row245 : RowOk Tryz.prog 245 ⟨.ptr, 1, 8, .nilp⟩ := ⟨by kernel_rfl, by kernel_rfl, by kernel_rfl, by kernel_rfl⟩
theorem row246 : RowOk Tryz.prog 246 ⟨.struct [(0, 9), (1, 3), (2, 31), (3, 3)], 4, 48, .agg [.str [], .int .i64 0, .nili, .int .i64 0]⟩ := ⟨by kernel_rfl, by kernel_rfl, by kernel_rfl, by kernel_rfl⟩
theorem row247 : RowOk Tryz.prog 247 ⟨.struct [(0, 9), (1, 3), (2, 31), (3, 3)], 4, 48, .agg [.str [], .int .i64 0, .nili, .int .i64 0]⟩ := ⟨by kernel_rfl, by kernel_rfl, by kernel_rfl, by kernel_rfl⟩
theorem row248 : RowOk Tryz.prog 248 ⟨.func, 1, 8, .nilf⟩ := ⟨by kernel_rfl, by kernel_rfl, by kernel_rfl, by kernel_rfl⟩
theorem row249 : RowOk Tryz.prog 249 ⟨.ptr, 1, 8, .nilp⟩ := ⟨by kernel_rfl, by kernel_rfl, by kernel_rfl, by kernel_rfl⟩
theorem row250 : RowOk Tryz.prog 250 ⟨.func, 1, 8, .nilf⟩ := ⟨by kernel_rfl, by kernel_rfl, by kernel_rfl, by kernel_rfl⟩
theorem row251 : RowOk Tryz.prog 251 ⟨.func, 1, 8, .nilf⟩ := ⟨by kernel_rfl, by kernel_rfl, by kernel_rfl, by kernel_rfl⟩
theorem row252 : RowOk Tryz.prog 252 ⟨.func, 1, 8, .nilf⟩ := ⟨by kernel_rfl, by kernel_rfl, by kernel_rfl, by kernel_rfl⟩
theorem row253 : RowOk Tryz.prog 253 ⟨.func, 1, 8, .nilf⟩ := ⟨by kernel_rfl, by kernel_rfl, by kernel_rfl, by kernel_rfl⟩
theorem row255 : RowOk Tryz.prog 255 ⟨.func, 1, 8, .nilf⟩ := ⟨by kernel_rfl, by kernel_rfl, by kernel_rfl, by kernel_rfl⟩
theorem row256 : RowOk Tryz.prog 256 ⟨.func, 1, 8, .nilf⟩ := ⟨by kernel_rfl, by kernel_rfl, by kernel_rfl, by kernel_rfl⟩
theorem row257 : RowOk Tryz.prog 257 ⟨.func, 1, 8, .nilf⟩ := ⟨by kernel_rfl, by kernel_rfl, by kernel_rfl, by kernel_rfl⟩
theorem row258 : RowOk Tryz.prog 258 ⟨.func, 1, 8, .nilf⟩ := ⟨by kernel_rfl, by kernel_rfl, by kernel_rfl, by kernel_rfl⟩
theorem row259 : RowOk Tryz.prog 259 ⟨.func, 1, 8, .nilf⟩ := ⟨by kernel_rfl, by kernel_rfl, by kernel_rfl, by kernel_rfl⟩
theorem row260 : RowOk Tryz.prog 260 ⟨.func, 1, 8, .nilf⟩ := ⟨by kernel_rfl, by kernel_rfl, by kernel_rfl, by kernel_rfl⟩
theorem row262 : RowOk Tryz.prog 262 ⟨.func, 1, 8, .nilf⟩ := ⟨by kernel_rfl, by kernel_rfl, by kernel_rfl, by kernel_rfl⟩
theorem row263 : RowOk Tryz.prog 263 ⟨.func, 1, 8, .nilf⟩ := ⟨by kernel_rfl, by kernel_rfl, by kernel_rfl, by kernel_rfl⟩
theorem row264 : RowOk Tryz.prog 264 ⟨.func, 1, 8, .nilf⟩ := ⟨by kernel_rfl, by kernel_rfl, by kernel_rfl, by kernel_rfl⟩
theorem row265 : RowOk Tryz.prog 265 ⟨.func, 1, 8, .nilf⟩ := ⟨by kernel_rfl, by kernel_rfl, by kernel_rfl, by kernel_rfl⟩
theorem row266 : RowOk Tryz.prog 266 ⟨.func, 1, 8, .nilf⟩ := ⟨by kernel_rfl, by kernel_rfl, by kernel_rfl, by kernel_rfl⟩
theorem row267 : RowOk Tryz.prog 267 ⟨.func, 1, 8, .nilf⟩ := ⟨by kernel_rfl, by kernel_rfl, by kernel_rfl, by kernel_rfl⟩
theorem row269 : RowOk Tryz.prog 269 ⟨.func, 1, 8, .nilf⟩ := ⟨by kernel_rfl, by kernel_rfl, by kernel_rfl, by kernel_rfl⟩
theorem row270 : RowOk Tryz.prog 270 ⟨.struct [(0, 66), (1, 9)], 2, 40, .agg [.sl true [], .str []]⟩ := ⟨by kernel_rfl, by kernel_rfl, by kernel_rfl, by kernel_rfl⟩
theorem row271 : RowOk Tryz.prog 271 ⟨.struct [(0, 66), (1, 9)], 2, 40, .agg [.sl true [], .str []]⟩ := ⟨by kernel_rfl, by kernel_rfl, by kernel_rfl, by kernel_rfl⟩
theorem row272 : RowOk Tryz.prog 272 ⟨.func, 1, 8, .nilf⟩ := ⟨by kernel_rfl, by kernel_rfl, by kernel_rfl, by kernel_rfl⟩
theorem row273 : RowOk Tryz.prog 273 ⟨.func, 1, 8, .nilf⟩ := ⟨by kernel_rfl, by kernel_rfl, by kernel_rfl, by kernel_rfl⟩
theorem row274 : RowOk Tryz.prog 274 ⟨.func, 1, 8, .nilf⟩ := ⟨by kernel_rfl, by kernel_rfl, by kernel_rfl, by kernel_rfl⟩
theorem row275 : RowOk Tryz.prog 275 ⟨.struct [(0, 27), (1, 9)], 2, 40, .agg [.sl true [], .str []]⟩ := ⟨by kernel_rfl, by kernel_rfl, by kernel_rfl, by kernel_rfl⟩
theorem row276 : RowOk Tryz.prog 276 ⟨.struct [(0, 27), (1, 9)], 2, 40, .agg [.sl true [], .str []]⟩ := ⟨by kernel_rfl, by kernel_rfl, by kernel_rfl, by kernel_rfl⟩
theorem row277 : RowOk Tryz.prog 277 ⟨.func, 1, 8, .nilf⟩ := ⟨by kernel_rfl, by kernel_rfl, by kernel_rfl, by kernel_rfl⟩
theorem row278 : RowOk Tryz.prog 278 ⟨.func, 1, 8, .nilf⟩ := ⟨by kernel_rfl, by kernel_rfl, by kernel_rfl, by kernel_rfl⟩
theorem row279 : RowOk Tryz.prog 279 ⟨.func, 1, 8, .nilf⟩ := ⟨by kernel_rfl, by kernel_rfl, by kernel_rfl, by kernel_rfl⟩
theorem row280 : RowOk Tryz.prog 280 ⟨.func, 1, 8, .nilf⟩ := ⟨by kernel_rfl, by kernel_rfl, by kernel_rfl, by kernel_rfl⟩
theorem row281 : RowOk Tryz.prog 281 ⟨.func, 1, 8, .nilf⟩ := ⟨by kernel_rfl, by kernel_rfl, by kernel_rfl, by kernel_rfl⟩
theorem row282 : RowOk Tryz.prog 282 ⟨.func, 1, 8, .nilf⟩ := ⟨by kernel_rfl, by kernel_rfl, by kernel_rfl, by kernel_rfl⟩
theorem row283 : RowOk Tryz.prog 283 ⟨.func, 1, 8, .nilf⟩ := ⟨by kernel_rfl, by kernel_rfl, by kernel_rfl, by kernel_rfl⟩
theorem row284 : RowOk Tryz.prog 284 ⟨.func, 1, 8, .nilf⟩ := ⟨by kernel_rfl, by kernel_rfl, by kernel_rfl, by kernel_rfl⟩
theorem row285 : RowOk Tryz.prog 285 ⟨.func, 1, 8, .nilf⟩ := ⟨by kernel_rfl, by kernel_rfl, by kernel_rfl, by kernel_rfl⟩
theorem row286 : RowOk Tryz.prog 286 ⟨.func, 1, 8, .nilf⟩ := ⟨by kernel_rfl, by kernel_rfl, by kernel_rfl, by kernel_rfl⟩
theorem row287 : RowOk Tryz.prog 287 ⟨.func, 1, 8, .nilf⟩ := ⟨by kernel_rfl, by kernel_rfl, by kernel_rfl, by kernel_rfl⟩
theorem row288 : RowOk Tryz.prog 288 ⟨.func, 1, 8, .nilf⟩ := ⟨by kernel_rfl, by kernel_rfl, by kernel_rfl, by kernel_rfl⟩
theorem row289 : RowOk Tryz.prog 289 ⟨.func, 1, 8, .nilf⟩ := ⟨by kernel_rfl, by kernel_rfl, by kernel_rfl, by kernel_rfl⟩
theorem row290 : RowOk Tryz.prog 290 ⟨.func, 1, 8, .nilf⟩ := ⟨by kernel_rfl, by kernel_rfl, by kernel_rfl, by kernel_rfl⟩
theorem row291 : RowOk Tryz.prog 291 ⟨.func, 1, 8, .nilf⟩ := ⟨by kernel_rfl, by kernel_rfl, by kernel_rfl, by kernel_rfl⟩
theorem row293 : RowOk Tryz.prog 293 ⟨.func, 1, 8, .nilf⟩ := ⟨by kernel_rfl, by kernel_rfl, by kernel_rfl, by kernel_rfl⟩
theorem row294 : RowOk Tryz.prog 294 ⟨.func, 1, 8, .nilf⟩ := ⟨by kernel_rfl, by kernel_rfl, by kernel_rfl, by kernel_rfl⟩
theorem row295 : RowOk Tryz.prog 295 ⟨.func, 1, 8, .nilf⟩ := ⟨by kernel_rfl, by kernel_rfl, by kernel_rfl, by kernel_rfl⟩
theorem row297 : RowOk Tryz.prog 297 ⟨.func, 1, 8, .nilf⟩ := ⟨by kernel_rfl, by kernel_rfl, by kernel_rfl, by kernel_rfl⟩
theorem row299 : RowOk Tryz.prog 299 ⟨.func, 1, 8, .nilf⟩ := ⟨by kernel_rfl, by kernel_rfl, by kernel_rfl, by kernel_rfl⟩
theorem row300 : RowOk Tryz.prog 300 ⟨.func, 1, 8, .nilf⟩ := ⟨by kernel_rfl, by kernel_rfl, by kernel_rfl, by kernel_rfl⟩
theorem row302 : RowOk Tryz.prog 302 ⟨.func, 1, 8, .nilf⟩ := ⟨by kernel_rfl, by kernel_rfl, by kernel_rfl, by kernel_rfl⟩
theorem row303 : RowOk Tryz.prog 303 ⟨.struct [(0, 17)], 1, 8, .agg [.nilp]⟩ := ⟨by kernel_rfl, by kernel_rfl, by kernel_rfl, by kernel_rfl⟩
theorem row306 : RowOk Tryz.prog 306 ⟨.func, 1, 8, .nilf⟩ := ⟨by kernel_rfl, by kernel_rfl, by kernel_rfl, by kernel_rfl⟩
theorem row307 : RowOk Tryz.prog 307 ⟨.func, 1, 8, .nilf⟩ := ⟨by kernel_rfl, by kernel_rfl, by kernel_rfl, by kernel_rfl⟩
theorem row308 : RowOk Tryz.prog 308 ⟨.func, 1, 8, .nilf⟩ := ⟨by kernel_rfl, by kernel_rfl, by kernel_rfl, by kernel_rfl⟩
theorem row309 : RowOk Tryz.prog 309 ⟨.iface, 1, 16, .nili⟩ := ⟨by kernel_rfl, by kernel_rfl, by kernel_rfl, by kernel_rfl⟩
theorem row311 : RowOk Tryz.prog 311 ⟨.func, 1, 8, .nilf⟩ := ⟨by kernel_rfl, by kernel_rfl, by kernel_rfl, by kernel_rfl⟩
theorem row312 : RowOk Tryz.prog 312 ⟨.iface, 1, 16, .nili⟩ := ⟨by kernel_rfl, by kernel_rfl, by kernel_rfl, by kernel_rfl⟩
theorem row313 : RowOk Tryz.prog 313 ⟨.func, 1, 8, .nilf⟩ := ⟨by kernel_rfl, by kernel_rfl, by kernel_rfl, by kernel_rfl⟩
theorem row314 : RowOk Tryz.prog 314 ⟨.iface, 1, 16, .nili⟩ := ⟨by kernel_rfl, by kernel_rfl, by kernel_rfl, by kernel_rfl⟩
theorem row315 : RowOk Tryz.prog 315 ⟨.sl 31, 1, 24, .sl true []⟩ := ⟨by kernel_rfl, by kernel_rfl, by kernel_rfl, by kernel_rfl⟩
theorem row316 : RowOk Tryz.prog 316 ⟨.func, 1, 8, .nilf⟩ := ⟨by kernel_rfl, by kernel_rfl, by kernel_rfl, by kernel_rfl⟩
theorem row317 : RowOk Tryz.prog 317 ⟨.func, 1, 8, .nilf⟩ := ⟨by kernel_rfl, by kernel_rfl, by kernel_rfl, by kernel_rfl⟩
theorem row318 : RowOk Tryz.prog 318 ⟨.func, 1, 8, .nilf⟩ := ⟨by kernel_rfl, by kernel_rfl, by kernel_rfl, by kernel_rfl⟩
theorem row319 : RowOk Tryz.prog 319 ⟨.func, 1, 8, .nilf⟩ := ⟨by kernel_rfl, by kernel_rfl, by kernel_rfl, by kernel_rfl⟩
theorem row320 : RowOk Tryz.prog 320 ⟨.func, 1, 8, .nilf⟩ := ⟨by kernel_rfl, by kernel_rfl, by kernel_rfl, by kernel_rfl⟩
theorem row321 : RowOk Tryz.prog 321 ⟨.func, 1, 8, .nilf⟩ := ⟨by kernel_rfl, by kernel_rfl, by kernel_rfl, by kernel_rfl⟩
theorem row322 : RowOk Tryz.prog 322 ⟨.func, 1, 8, .nilf⟩ := ⟨by kernel_rfl, by kernel_rfl, by kernel_rfl, by kernel_rfl⟩
theorem row323 : RowOk Tryz.prog 323 ⟨.func, 1, 8, .nilf⟩ := ⟨by kernel_rfl, by kernel_rfl, by kernel_rfl, by kernel_rfl⟩
theorem row324 : RowOk Tryz.prog 324 ⟨.func, 1, 8, .nilf⟩ := ⟨by kernel_rfl, by kernel_rfl, by kernel_rfl, by kernel_rfl⟩
theorem row325 : RowOk Tryz.prog 325 ⟨.func, 1, 8, .nilf⟩ := ⟨by kernel_rfl, by kernel_rfl, by kernel_rfl, by kernel_rfl⟩
theorem row326 : RowOk Tryz.prog 326 ⟨.func, 1, 8, .nilf⟩ := ⟨by kernel_rfl, by kernel_rfl, by kernel_rfl, by kernel_rfl⟩
theorem row327 : RowOk Tryz.prog 327 ⟨.func, 1, 8, .nilf⟩ := ⟨by kernel_rfl, by kernel_rfl, by kernel_rfl, by kernel_rfl⟩
theorem row328 : RowOk Tryz.prog 328 ⟨.func, 1, 8, .nilf⟩ := ⟨by kernel_rfl, by kernel_rfl, by kernel_rfl, by kernel_rfl⟩
theorem row329 : RowOk Tryz.prog 329 ⟨.func, 1, 8, .nilf⟩ := ⟨by kernel_rfl, by kernel_rfl, by kernel_rfl, by kernel_rfl⟩
theorem row330 : RowOk Tryz.prog 330 ⟨.func, 1, 8, .nilf⟩ := ⟨by kernel_rfl, by kernel_rfl, by kernel_rfl, by kernel_rfl⟩
theorem row331 : RowOk Tryz.prog 331 ⟨.func, 1, 8, .nilf⟩ := ⟨by kernel_rfl, by kernel_rfl, by kernel_rfl, by kernel_rfl⟩
theorem row332 : RowOk Tryz.prog 332 ⟨.func, 1, 8, .nilf⟩ := ⟨by kernel_rfl, by kernel_rfl, by kernel_rfl, by kernel_rfl⟩
theorem row333 : RowOk Tryz.prog 333 ⟨.func, 1, 8, .nilf⟩ := ⟨by kernel_rfl, by kernel_rfl, by kernel_rfl, by kernel_rfl⟩
theorem row334 : RowOk Tryz.prog 334 ⟨.func, 1, 8, .nilf⟩ := ⟨by kernel_rfl, by kernel_rfl, by kernel_rfl, by kernel_rfl⟩
theorem row335 : RowOk Tryz.prog 335 ⟨.func, 1, 8, .nilf⟩ := ⟨by kernel_rfl, by kernel_rfl, by kernel_rfl, by kernel_rfl⟩
theorem row336 : RowOk Tryz.prog 336 ⟨.func, 1, 8, .nilf⟩ := ⟨by kernel_rfl, by kernel_rfl, by kernel_rfl, by kernel_rfl⟩
theorem row337 : RowOk Tryz.prog 337 ⟨.func, 1, 8, .nilf⟩ := ⟨by kernel_rfl, by kernel_rfl, by kernel_rfl, by kernel_rfl⟩
theorem row338 : RowOk Tryz.prog 338 ⟨.func, 1, 8, .nilf⟩ := ⟨by kernel_rfl, by kernel_rfl, by kernel_rfl, by kernel_rfl⟩
theorem row339 : RowOk Tryz.prog 339 ⟨.func, 1, 8, .nilf⟩ := ⟨by kernel_rfl, by kernel_rfl, by kernel_rfl, by kernel_rfl⟩
theorem row340 : RowOk Tryz.prog 340 ⟨.ptr, 1, 8, .nilp⟩ := ⟨by kernel_rfl, by kernel_rfl, by kernel_rfl, by kernel_rfl⟩
theorem row341 : RowOk Tryz.prog 341 ⟨.struct [(0, 3), (1, 31)], 2, 24, .agg [.int .i64 0, .nili]⟩ := ⟨by kernel_rfl, by kernel_rfl, by kernel_rfl, by kernel_rfl⟩
theorem row342 : RowOk Tryz.prog 342 ⟨.struct [(0, 3), (1, 31)], 2, 24, .agg [.int .i64 0, .nili]⟩ := ⟨by kernel_rfl, by kernel_rfl, by kernel_rfl, by kernel_rfl⟩
theorem row344 : RowOk Tryz.prog 344 ⟨.func, 1, 8, .nilf⟩ := ⟨by kernel_rfl, by kernel_rfl, by kernel_rfl, by kernel_rfl⟩
theorem row345 : RowOk Tryz.prog 345 ⟨.func, 1, 8, .nilf⟩ := ⟨by kernel_rfl, by kernel_rfl, by kernel_rfl, by kernel_rfl⟩
theorem row346 : RowOk Tryz.prog 346 ⟨.ptr, 1, 8, .nilp⟩ := ⟨by kernel_rfl, by kernel_rfl, by kernel_rfl, by kernel_rfl⟩
theorem row347 : RowOk Tryz.prog 347 ⟨.func, 1, 8, .nilf⟩ := ⟨by kernel_rfl, by kernel_rfl, by kernel_rfl, by kernel_rfl⟩
theorem row349 : RowOk Tryz.prog 349 ⟨.func, 1, 8, .nilf⟩ := ⟨by kernel_rfl, by kernel_rfl, by kernel_rfl, by kernel_rfl⟩
theorem row351 : RowOk Tryz.prog 351 ⟨.func, 1, 8, .nilf⟩ := ⟨by kernel_rfl, by kernel_rfl, by kernel_rfl, by kernel_rfl⟩
theorem row352 : RowOk Tryz.prog 352 ⟨.func, 1, 8, .nilf⟩ := ⟨by kernel_rfl, by kernel_rfl, by kernel_rfl, by kernel_rfl⟩
theorem row354 : RowOk Tryz.prog 354 ⟨.func, 1, 8, .nilf⟩ := ⟨by kernel_rfl, by kernel_rfl, by kernel_rfl, by kernel_rfl⟩
theorem row356 : RowOk Tryz.prog 356 ⟨.func, 1, 8, .nilf⟩ := ⟨by kernel_rfl, by kernel_rfl, by kernel_rfl, by kernel_rfl⟩
theorem row358 : RowOk Tryz.prog 358 ⟨.func, 1, 8, .nilf⟩ := ⟨by kernel_rfl, by kernel_rfl, by kernel_rfl, by kernel_rfl⟩
theorem row359 : RowOk Tryz.prog 359 ⟨.func, 1, 8, .nilf⟩ := ⟨by kernel_rfl, by kernel_rfl, by kernel_rfl, by kernel_rfl⟩
theorem row360 : RowOk Tryz.prog 360 ⟨.func, 1, 8, .nilf⟩ := ⟨by kernel_rfl, by kernel_rfl, by kernel_rfl, by kernel_rfl⟩
theorem row361 : RowOk Tryz.prog 361 ⟨.func, 1, 8, .nilf⟩ := ⟨by kernel_rfl, by kernel_rfl, by kernel_rfl, by kernel_rfl⟩
theorem row362 : RowOk Tryz.prog 362 ⟨.func, 1, 8, .nilf⟩ := ⟨by kernel_rfl, by kernel_rfl, by kernel_rfl, by kernel_rfl⟩
theorem row363 : RowOk Tryz.prog 363 ⟨.func, 1, 8, .nilf⟩ := ⟨by kernel_rfl, by kernel_rfl, by kernel_rfl, by kernel_rfl⟩
theorem row364 : RowOk Tryz.prog 364 ⟨.func, 1, 8, .nilf⟩ := ⟨by kernel_rfl, by kernel_rfl, by kernel_rfl, by kernel_rfl⟩
theorem row365 : RowOk Tryz.prog 365 ⟨.func, 1, 8, .nilf⟩ := ⟨by kernel_rfl, by kernel_rfl, by kernel_rfl, by kernel_rfl⟩
theorem row367 : RowOk Tryz.prog 367 ⟨.func, 1, 8, .nilf⟩ := ⟨by kernel_rfl, by kernel_rfl, by kernel_rfl, by kernel_rfl⟩
theorem row368 : RowOk Tryz.prog 368 ⟨.func, 1, 8, .nilf⟩ := ⟨by kernel_rfl, by kernel_rfl, by kernel_rfl, by kernel_rfl⟩
theorem row369 : RowOk Tryz.prog 369 ⟨.func, 1, 8, .nilf⟩ := ⟨by kernel_rfl, by kernel_rfl, by kernel_rfl, by kernel_rfl⟩
theorem row370 : RowOk Tryz.prog 370 ⟨.func, 1, 8, .nilf⟩ := ⟨by kernel_rfl, by kernel_rfl, by kernel_rfl, by kernel_rfl⟩
theorem row371 : RowOk Tryz.prog 371 ⟨.func, 1, 8, .nilf⟩ := ⟨by kernel_rfl, by kernel_rfl, by kernel_rfl, by kernel_rfl⟩
theorem row373 : RowOk Tryz.prog 373 ⟨.func, 1, 8, .nilf⟩ := ⟨by kernel_rfl, by kernel_rfl, by kernel_rfl, by kernel_rfl⟩
theorem row374 : RowOk Tryz.prog 374 ⟨.func, 1, 8, .nilf⟩ := ⟨by kernel_rfl, by kernel_rfl, by kernel_rfl, by kernel_rfl⟩
theorem row375 : RowOk Tryz.prog 375 ⟨.func, 1, 8, .nilf⟩ := ⟨by kernel_rfl, by kernel_rfl, by kernel_rfl, by kernel_rfl⟩
theorem row376 : RowOk Tryz.prog 376 ⟨.func, 1, 8, .nilf⟩ := ⟨by kernel_rfl, by kernel_rfl, by kernel_rfl, by kernel_rfl⟩
theorem row377 : RowOk Tryz.prog 377 ⟨.func, 1, 8, .nilf⟩ := ⟨by kernel_rfl, by kernel_rfl, by kernel_rfl, by kernel_rfl⟩
theorem row378 : RowOk Tryz.prog 378 ⟨.sl 84, 1, 24, .sl true []⟩ := ⟨by kernel_rfl, by kernel_rfl, by kernel_rfl, by kernel_rfl⟩
theorem row379 : RowOk Tryz.prog 379 ⟨.func, 1, 8, .nilf⟩ := ⟨by kernel_rfl, by kernel_rfl, by kernel_rfl, by kernel_rfl⟩
theorem row380 : RowOk Tryz.prog 380 ⟨.func, 1, 8, .nilf⟩ := ⟨by kernel_rfl, by kernel_rfl, by kernel_rfl, by kernel_rfl⟩
theorem row381 : RowOk Tryz.prog 381 ⟨.func, 1, 8, .nilf⟩ := ⟨by kernel_rfl, by kernel_rfl, by kernel_rfl, by kernel_rfl⟩
theorem row382 : RowOk Tryz.prog 382 ⟨.func, 1, 8, .nilf⟩ := ⟨by kernel_rfl, by kernel_rfl, by kernel_rfl, by kernel_rfl⟩
theorem row383 : RowOk Tryz.prog 383 ⟨.func, 1, 8, .nilf⟩ := ⟨by kernel_rfl, by kernel_rfl, by kernel_rfl, by kernel_rfl⟩
theorem row384 : RowOk Tryz.prog 384 ⟨.func, 1, 8, .nilf⟩ := ⟨by kernel_rfl, by kernel_rfl, by kernel_rfl, by kernel_rfl⟩
theorem row385 : RowOk Tryz.prog 385 ⟨.func, 1, 8, .nilf⟩ := ⟨by kernel_rfl, by kernel_rfl, by kernel_rfl, by kernel_rfl⟩
theorem row386 : RowOk Tryz.prog 386 ⟨.func, 1, 8, .nilf⟩ := ⟨by kernel_rfl, by kernel_rfl, by kernel_rfl, by kernel_rfl⟩
theorem row387 : RowOk Tryz.prog 387 ⟨.func, 1, 8, .nilf⟩ := ⟨by kernel_rfl, by kernel_rfl, by kernel_rfl, by kernel_rfl⟩
theorem row388 : RowOk Tryz.prog 388 ⟨.func, 1, 8, .nilf⟩ := ⟨by kernel_rfl, by kernel_rfl, by kernel_rfl, by kernel_rfl⟩
theorem row389 : RowOk Tryz.prog 389 ⟨.func, 1, 8, .nilf⟩ := ⟨by kernel_rfl, by kernel_rfl, by kernel_rfl, by kernel_rfl⟩
theorem row396 : RowOk Tryz.prog 396 ⟨.func, 1, 8, .nilf⟩ := ⟨by kernel_rfl, by kernel_rfl, by kernel_rfl, by kernel_rfl⟩
theorem row397 : RowOk Tryz.prog 397 ⟨.func, 1, 8, .nilf⟩ := ⟨by kernel_rfl, by kernel_rfl, by kernel_rfl, by kernel_rfl⟩
theorem row398 : RowOk Tryz.prog 398 ⟨.func, 1, 8, .nilf⟩ := ⟨by kernel_rfl, by kernel_rfl, by kernel_rfl, by kernel_rfl⟩
theorem row399 : RowOk Tryz.prog 399 ⟨.func, 1, 8, .nilf⟩ := ⟨by kernel_rfl, by kernel_rfl, by kernel_rfl, by kernel_rfl⟩
theorem row400 : RowOk Tryz.prog 400 ⟨.func, 1, 8, .nilf⟩ := ⟨by kernel_rfl, by kernel_rfl, by kernel_rfl, by kernel_rfl⟩
theorem row401 : RowOk Tryz.prog 401 ⟨.func, 1, 8, .nilf⟩ := ⟨by kernel_rfl, by kernel_rfl, by kernel_rfl, by kernel_rfl⟩
theorem row403 : RowOk Tryz.prog 403 ⟨.func, 1, 8, .nilf⟩ := ⟨by kernel_rfl, by kernel_rfl, by kernel_rfl, by kernel_rfl⟩
theorem row404 : RowOk Tryz.prog 404 ⟨.func, 1, 8, .nilf⟩ := ⟨by kernel_rfl, by kernel_rfl, by kernel_rfl, by kernel_rfl⟩
theorem row405 : RowOk Tryz.prog 405 ⟨.struct [(0, 17), (1, 17), (2, 17), (3, 9)], 4, 40, .agg [.nilp, .nilp, .nilp, .str []]⟩ := ⟨by kernel_rfl, by kernel_rfl, by kernel_rfl, by kernel_rfl⟩
theorem row410 : RowOk Tryz.prog 410 ⟨.func, 1, 8, .nilf⟩ := ⟨by kernel_rfl, by kernel_rfl, by kernel_rfl, by kernel_rfl⟩
theorem row411 : RowOk Tryz.prog 411 ⟨.func, 1, 8, .nilf⟩ := ⟨by kernel_rfl, by kernel_rfl, by kernel_rfl, by kernel_rfl⟩
theorem row413 : RowOk Tryz.prog 413 ⟨.func, 1, 8, .nilf⟩ := ⟨by kernel_rfl, by kernel_rfl, by kernel_rfl, by kernel_rfl⟩
theorem row416 : RowOk Tryz.prog 416 ⟨.struct [(0, 12), (1, 12), (2, 79), (3, 412), (4, 5), (5, 5), (6, 220), (7, 413), (8, 249), (9, 414), (10, 415)], 11, 48, .agg [.int .u64 0, .int .u64 0, .int .u32 0, .int .u8 0, .int .u8 0, .int .u8 0, .int .u8 0, .nilf, .nilp, .int .i32 0, .int .i32 0]⟩ := ⟨by kernel_rfl, by kernel_rfl, by kernel_rfl, by kernel_rfl⟩
theorem row418 : RowOk Tryz.prog 418 ⟨.func, 1, 8, .nilf⟩ := ⟨by kernel_rfl, by kernel_rfl, by kernel_rfl, by kernel_rfl⟩
theorem row419 : RowOk Tryz.prog 419 ⟨.func, 1, 8, .nilf⟩ := ⟨by kernel_rfl, by kernel_rfl, by kernel_rfl, by kernel_rfl⟩
theorem row420 : RowOk Tryz.prog 420 ⟨.struct [(0, 9), (1, 220)], 2, 24, .agg [.str [], .int .u8 0]⟩ := ⟨by kernel_rfl, by kernel_rfl, by kernel_rfl, by kernel_rfl⟩
theorem row423 : RowOk Tryz.prog 423 ⟨.func, 1, 8, .nilf⟩ := ⟨by kernel_rfl, by kernel_rfl, by kernel_rfl, by kernel_rfl⟩
theorem row424 : RowOk Tryz.prog 424 ⟨.int .u16, 1, 2, .int .u16 0⟩ := ⟨by kernel_rfl, by kernel_rfl, by kernel_rfl, by kernel_rfl⟩
theorem row425 : RowOk Tryz.prog 425 ⟨.struct [(0, 414), (1, 424), (2, 424), (3, 79), (4, 79)], 5, 16, .agg [.int .i32 0, .int .u16 0, .int .u16 0, .int .u32 0, .int .u32 0]⟩ := ⟨by kernel_rfl, by kernel_rfl, by kernel_rfl, by kernel_rfl⟩
theorem row427 : RowOk Tryz.prog 427 ⟨.sl 430, 1, 24, .sl true []⟩ := ⟨by kernel_rfl, by kernel_rfl, by kernel_rfl, by kernel_rfl⟩
theorem row429 : RowOk Tryz.prog 429 ⟨.struct [(0, 414), (1, 415), (2, 428), (3, 428)], 4, 16, .agg [.int .i32 0, .int .i32 0, .int .i32 0, .int .i32 0]⟩ := ⟨by kernel_rfl, by kernel_rfl, by kernel_rfl, by kernel_rfl⟩
theorem row431 : RowOk Tryz.prog 431 ⟨.ptr, 1, 8, .nilp⟩ := ⟨by kernel_rfl, by kernel_rfl, by kernel_rfl, by kernel_rfl⟩
theorem rows_ok : AllRows Tryz.prog rows := ⟨row1, row2, row3, row4, row5, row7, row9, row12, row13, row18, row20, row21, row22, row23, row24, row25, row26, row27, row28, row29, row30, row31, row33, row34, row35, row36, row38, row39, row41, row42, row43, row44, row45, row46, row47, row48, row49, row50, row51, row52, row53, row54, row55, row56, row57, row58, row59, row60, row61, row62, row63, row64, row65, row66, row67, row68, row69, row70, row71, row72, row73, row74, row75, row76, row77, row78, row79, row80, row81, row82, row83, row84, row85, row86, row87, row88, row89, row90, row91, row92, row93, row94, row95, row96, row97, row98, row99, row100, row101, row102, row103, row104, row105, row106, row107, row108, row109, row110, row112, row113, row114, row115, row116, row117, row118, row120, row121, row123, row124, row125, row126, row127, row128, row129, row130, row131, row132, row133, row134, row135, row136, row137, row138, row139, row140, row141, row142, row143, row144, row145, row146, row147, row148, row149, row150, row152, row153, row155, row156, row157, row158, row159, row160, row161, row162, row163, row164, row165, row166, row167, row168, row169, row170, row171, row172, row174, row175, row176, row177, row178, row179, row180, row181, row182, row183, row184, row185, row186, row187, row188, row189, row190, row191, row192, row193, row194, row196, row198, row200, row202, row203, row204, row205, row206, row207, row208, row209, row210, row211, row216, row217, row219, row221, row222, row223, row224, row225, row226, row227, row228, row229, row230, row231, row232, row233, row234, row235, row236, row237, row238, row239, row240, row241, row242, row243, row244, row245, row246, row247, row248, row249, row250, row251, row252, row253, row255, row256, row257, row258, row259, row260, row262, row263, row264, row265, row266, row267, row269, row270, row271, row272, row273, row274, row275, row276, row277, row278, row279, row280, row281, row282, row283, row284, row285, row286, row287, row288, row289, row290, row291, row293, row294, row295, row297, row299, row300, row302, row303, row306, row307, row308, row309, row311, row312, row313, row314, row315, row316, row317, row318, row319, row320, row321, row322, row323, row324, row325, row326, row327, row328, row329, row330, row331, row332, row333, row334, row335, row336, row337, row338, row339, row340, row341, row342, row344, row345, row346, row347, row349, row351, row352, row354, row356, row358, row359, row360, row361, row362, row363, row364, row365, row367, row368, row369, row370, row371, row373, row374, row375, row376, row377, row378, row379, row380, row381, row382, row383, row384, row385, row386, row387, row388, row389, row396, row397, row398, row399, row400, row401, row403, row404, row405, row410, row411, row413, row416, row418, row419, row420, row423, row424, row425, row427, row429, row431, trivial⟩
noncomputable def cx (base : Fr) : Ctx := { P := Tryz.prog, tab := look rows, base := base, ok := fun t i h => look_ok rows_ok t i h, mixed := by kernel_rfl }
end Go.Proofs.YtmnllpkbjkenfaaGreatDoor
