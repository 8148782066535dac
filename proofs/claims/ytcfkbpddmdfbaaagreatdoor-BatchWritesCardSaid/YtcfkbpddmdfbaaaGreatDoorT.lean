/- The types of the program, as a table; the context of the abstract semantics. Printed by table.py. -/
import Derived.Test.YtcfkbpddmdfbaaaGreatDoorProg
import Derived.Test.YtcfkbpddmdfbaaaGreatDoorAb
import Derived.KernelRfl
set_option maxRecDepth 100000
namespace Go.Proofs.YtcfkbpddmdfbaaaGreatDoor
open Go Go.Abs
def look : List (Nat × Ti) → Nat → Option Ti
 | [], _ => none
 | (k, i) :: r, t => bif Nat.beq k t then some i else look r t
def fnT : Ti := ⟨.func, 1, 8, .nilf⟩
def isFn : List Nat → Nat → Bool
 | [], _ => false
 | k :: r, t => bif Nat.beq k t then true else isFn r t
def looks (l : List (Nat × Ti)) (f : List Nat) (t : Nat) : Option Ti :=
 match look l t with
 | some i => some i
 | none => bif isFn f t then some fnT else none
def rows : List (Nat × Ti) := [
(2, ⟨.int .i64, 1, 8, .int .i64 0⟩),
(3, ⟨.int .i64, 1, 8, .int .i64 0⟩),
(4, ⟨.bool, 1, 1, .bool false⟩),
(5, ⟨.int .u8, 1, 1, .int .u8 0⟩),
(9, ⟨.str, 1, 16, .str []⟩),
(12, ⟨.int .u64, 1, 8, .int .u64 0⟩),
(20, ⟨.iface, 1, 16, .nili⟩),
(21, ⟨.int .i32, 1, 4, .int .i32 0⟩),
(22, ⟨.sl 61, 1, 24, .sl true []⟩),
(24, ⟨.struct [(0, 22), (1, 9)], 2, 40, .agg [.sl true [], .str []]⟩),
(26, ⟨.struct [(0, 4), (1, 2), (2, 9), (3, 9), (4, 9)], 5, 64, .agg [.bool false, .int .i64 0, .str [], .str [], .str []]⟩),
(29, ⟨.iface, 1, 16, .nili⟩),
(30, ⟨.iface, 1, 16, .nili⟩),
(33, ⟨.int .i64, 1, 8, .int .i64 0⟩),
(54, ⟨.sl 5, 1, 24, .sl true []⟩),
(55, ⟨.sl 250, 1, 24, .sl true []⟩),
(56, ⟨.int .u32, 1, 4, .int .u32 0⟩),
(58, ⟨.struct [(0, 55), (1, 56), (2, 9)], 3, 48, .agg [.sl true [], .int .u32 0, .str []]⟩),
(59, ⟨.sl 94, 1, 24, .sl true []⟩),
(61, ⟨.struct [(0, 4), (1, 58), (4, 59), (5, 9), (6, 9)], 7, 112, .agg [.bool false, .sl true [], .int .u32 0, .str [], .sl true [], .str [], .str []]⟩),
(67, ⟨.ptr, 1, 8, .nilp⟩),
(69, ⟨.struct [(0, 67), (1, 54)], 2, 32, .agg [.nilp, .sl true []]⟩),
(71, ⟨.struct [(0, 69)], 2, 32, .agg [.nilp, .sl true []]⟩),
(73, ⟨.int .u64, 1, 8, .int .u64 0⟩),
(80, ⟨.ptr, 1, 8, .nilp⟩),
(86, ⟨.sl 3, 1, 24, .sl true []⟩),
(91, ⟨.struct [(0, 9), (1, 9), (2, 55), (3, 56), (4, 9)], 5, 80, .agg [.str [], .str [], .sl true [], .int .u32 0, .str []]⟩),
(92, ⟨.sl 100, 1, 24, .sl true []⟩),
(94, ⟨.struct [(0, 4), (1, 91), (6, 92), (7, 9), (8, 9)], 9, 144, .agg [.bool false, .str [], .str [], .sl true [], .int .u32 0, .str [], .sl true [], .str [], .str []]⟩),
(95, ⟨.sl 182, 1, 24, .sl true []⟩),
(96, ⟨.sl 188, 1, 24, .sl true []⟩),
(97, ⟨.sl 193, 1, 24, .sl true []⟩),
(98, ⟨.sl 197, 1, 24, .sl true []⟩),
(100, ⟨.struct [(0, 9), (1, 9), (2, 9), (3, 3), (4, 21), (5, 4), (6, 95), (7, 96), (8, 97), (9, 98), (10, 55), (11, 9), (12, 9)], 13, 216, .agg [.str [], .str [], .str [], .int .i64 0, .int .i32 0, .bool false, .sl true [], .sl true [], .sl true [], .sl true [], .sl true [], .str [], .str []]⟩),
(102, ⟨.ptr, 1, 8, .nilp⟩),
(106, ⟨.sl 156, 1, 24, .sl true []⟩),
(108, ⟨.struct [(0, 30), (1, 9), (2, 3), (3, 3), (4, 106)], 5, 72, .agg [.nili, .str [], .int .i64 0, .int .i64 0, .sl true []]⟩),
(109, ⟨.sl 114, 1, 24, .sl true []⟩),
(114, ⟨.struct [(0, 3), (1, 3), (2, 73), (3, 9), (4, 9)], 5, 56, .agg [.int .i64 0, .int .i64 0, .int .u64 0, .str [], .str []]⟩),
(128, ⟨.ptr, 1, 8, .nilp⟩),
(140, ⟨.iface, 1, 16, .nili⟩),
(156, ⟨.struct [(0, 3), (1, 3), (2, 73), (3, 9), (4, 9)], 5, 56, .agg [.int .i64 0, .int .i64 0, .int .u64 0, .str [], .str []]⟩),
(159, ⟨.ptr, 1, 8, .nilp⟩),
(161, ⟨.struct [(0, 3), (1, 30)], 2, 24, .agg [.int .i64 0, .nili]⟩),
(175, ⟨.ptr, 1, 8, .nilp⟩),
(180, ⟨.sl 322, 1, 24, .sl true []⟩),
(182, ⟨.struct [(0, 55), (1, 73), (2, 73), (3, 3), (4, 73), (5, 180), (6, 56), (7, 9)], 8, 104, .agg [.sl true [], .int .u64 0, .int .u64 0, .int .i64 0, .int .u64 0, .sl true [], .int .u32 0, .str []]⟩),
(185, ⟨.struct [(0, 4), (1, 73)], 2, 16, .agg [.bool false, .int .u64 0]⟩),
(186, ⟨.sl 73, 1, 24, .sl true []⟩),
(188, ⟨.struct [(0, 55), (1, 73), (2, 73), (3, 73), (4, 185), (6, 185), (8, 185), (10, 186), (11, 186), (12, 180), (13, 56), (14, 9)], 15, 192, .agg [.sl true [], .int .u64 0, .int .u64 0, .int .u64 0, .bool false, .int .u64 0, .bool false, .int .u64 0, .bool false, .int .u64 0, .sl true [], .sl true [], .sl true [], .int .u32 0, .str []]⟩),
(191, ⟨.struct [(0, 21), (1, 186), (2, 9)], 3, 48, .agg [.int .i32 0, .sl true [], .str []]⟩),
(193, ⟨.struct [(0, 55), (1, 73), (2, 73), (3, 73), (4, 185), (6, 185), (8, 185), (10, 21), (11, 73), (12, 4), (13, 191), (16, 4), (17, 191), (20, 180), (21, 56), (22, 73), (23, 9)], 24, 280, .agg [.sl true [], .int .u64 0, .int .u64 0, .int .u64 0, .bool false, .int .u64 0, .bool false, .int .u64 0, .bool false, .int .u64 0, .int .i32 0, .int .u64 0, .bool false, .int .i32 0, .sl true [], .str [], .bool false, .int .i32 0, .sl true [], .str [], .sl true [], .int .u32 0, .int .u64 0, .str []]⟩),
(195, ⟨.sl 265, 1, 24, .sl true []⟩),
(197, ⟨.struct [(0, 55), (1, 73), (2, 73), (3, 73), (4, 73), (5, 195), (6, 56), (7, 9)], 8, 104, .agg [.sl true [], .int .u64 0, .int .u64 0, .int .u64 0, .int .u64 0, .sl true [], .int .u32 0, .str []]⟩),
(203, ⟨.ptr, 1, 8, .nilp⟩),
(204, ⟨.int .u64, 1, 8, .int .u64 0⟩),
(211, ⟨.iface, 1, 16, .nili⟩),
(214, ⟨.iface, 1, 16, .nili⟩),
(216, ⟨.iface, 1, 16, .nili⟩),
(217, ⟨.sl 30, 1, 24, .sl true []⟩),
(228, ⟨.ptr, 1, 8, .nilp⟩),
(230, ⟨.struct [(0, 9), (1, 3), (2, 30), (3, 3)], 4, 48, .agg [.str [], .int .i64 0, .nili, .int .i64 0]⟩),
(246, ⟨.sl 248, 1, 24, .sl true []⟩),
(248, ⟨.struct [(0, 3), (1, 9), (2, 4), (3, 73), (4, 246), (5, 55), (6, 9), (7, 9)], 8, 120, .agg [.int .i64 0, .str [], .bool false, .int .u64 0, .sl true [], .sl true [], .str [], .str []]⟩),
(250, ⟨.struct [(0, 9), (1, 4), (2, 248), (10, 9)], 11, 160, .agg [.str [], .bool false, .int .i64 0, .str [], .bool false, .int .u64 0, .sl true [], .sl true [], .str [], .str [], .str []]⟩),
(265, ⟨.struct [(0, 73), (1, 73), (2, 9)], 3, 32, .agg [.int .u64 0, .int .u64 0, .str []]⟩),
(282, ⟨.ptr, 1, 8, .nilp⟩),
(289, ⟨.ptr, 1, 8, .nilp⟩),
(291, ⟨.struct [(0, 3), (1, 30)], 2, 24, .agg [.int .i64 0, .nili]⟩),
(294, ⟨.sl 9, 1, 24, .sl true []⟩),
(296, ⟨.struct [(0, 3), (1, 73), (2, 9), (3, 294)], 4, 56, .agg [.int .i64 0, .int .u64 0, .str [], .sl true []]⟩),
(322, ⟨.struct [(0, 55), (1, 73), (2, 3), (3, 73), (4, 9), (5, 9), (6, 9)], 7, 96, .agg [.sl true [], .int .u64 0, .int .i64 0, .int .u64 0, .str [], .str [], .str []]⟩),
(327, ⟨.sl 4, 1, 24, .sl true []⟩),
(358, ⟨.struct [(0, 246), (1, 9)], 2, 40, .agg [.sl true [], .str []]⟩),
(363, ⟨.struct [(0, 55), (1, 9)], 2, 40, .agg [.sl true [], .str []]⟩),
(467, ⟨.sl 185, 1, 24, .sl true []⟩),
(520, ⟨.int .u16, 1, 2, .int .u16 0⟩),
(523, ⟨.sl 526, 1, 24, .sl true []⟩),
(527, ⟨.ptr, 1, 8, .nilp⟩)]
def fns : List Nat := [1, 27, 28, 32, 35, 36, 37, 38, 39, 40, 41, 43, 45, 47, 49, 50, 51, 52, 53, 62, 63, 64, 65, 66, 72, 74, 75, 76, 77, 78, 79, 81, 82, 83, 84, 85, 87, 88, 89, 101, 103, 104, 105, 111, 112, 116, 117, 118, 120, 121, 122, 123, 124, 125, 126, 127, 129, 130, 132, 133, 134, 139, 142, 144, 145, 146, 147, 148, 149, 150, 151, 152, 153, 155, 157, 158, 162, 163, 164, 165, 166, 168, 169, 171, 172, 173, 174, 176, 177, 178, 179, 183, 189, 194, 198, 199, 200, 201, 202, 208, 209, 210, 213, 215, 218, 219, 220, 221, 222, 223, 224, 225, 226, 227, 231, 232, 233, 234, 236, 237, 238, 240, 241, 242, 243, 244, 245, 251, 253, 255, 256, 258, 259, 260, 261, 262, 263, 266, 267, 268, 269, 270, 271, 272, 273, 274, 275, 276, 277, 278, 280, 281, 283, 284, 285, 286, 287, 288, 293, 297, 298, 299, 300, 301, 303, 305, 306, 308, 309, 310, 311, 312, 313, 314, 315, 316, 317, 318, 319, 320, 323, 324, 325, 326, 328, 329, 330, 331, 332, 333, 334, 335, 336, 337, 338, 339, 340, 341, 342, 344, 345, 346, 347, 348, 349, 350, 351, 352, 353, 356, 359, 360, 361, 364, 365, 366, 368, 370, 372, 374, 375, 376, 377, 378, 379, 380, 381, 382, 383, 384, 385, 386, 387, 388, 389, 390, 391, 392, 393, 394, 395, 396, 397, 398, 399, 400, 401, 402, 403, 404, 405, 406, 407, 408, 409, 410, 411, 412, 413, 414, 416, 417, 418, 419, 420, 421, 422, 424, 425, 426, 427, 428, 429, 431, 432, 433, 434, 435, 437, 438, 439, 441, 443, 444, 446, 447, 448, 449, 450, 451, 452, 453, 454, 455, 456, 457, 458, 459, 460, 461, 462, 463, 464, 465, 466, 468, 469, 470, 471, 472, 473, 475, 477, 478, 480, 482, 485, 486, 488, 489, 490, 491, 492, 493, 494, 495, 496, 506, 507, 509, 514, 515, 519]
theorem look_mem : ∀ {l : List (Nat × Ti)} {t : Nat} {i : Ti}, look l t = some i → (t, i) ∈ l
 | [], t, i, h => by simp [look] at h
 | (k, j) :: r, t, i, h => by
  unfold look at h
  cases hb : Nat.beq k t with
  | true => rw [hb] at h; simp at h; subst h; rw [Nat.eq_of_beq_eq_true hb]; exact List.mem_cons_self ..
  | false => rw [hb] at h; exact List.mem_cons_of_mem _ (look_mem h)
theorem isFn_mem : ∀ {l : List Nat} {t : Nat}, isFn l t = true → t ∈ l
 | [], t, h => by simp [isFn] at h
 | k :: r, t, h => by
  unfold isFn at h
  cases hb : Nat.beq k t with
  | true => rw [Nat.eq_of_beq_eq_true hb]; exact List.mem_cons_self ..
  | false => rw [hb] at h; exact List.mem_cons_of_mem _ (isFn_mem h)
def all4 (P : Program) (l : List (Nat × Ti)) : Prop := (l.map fun r => (P.info? r.1).map fun j => (j.size, j.bytes, j.zero)) = (l.map fun r => some (r.2.size, r.2.bytes, some (zv r.2.zero))) ∧ (l.map fun r => (P.underlying r.1).map r.2.ty.fits) = (l.map fun _ => some true) ∧ (l.all fun r => zvOk r.2) = true ∧
  (l.all fun r => match r.2.ty with | .struct fs => fs.all fun p => (P.info? p.2).isSome | _ => true) = true
theorem all4_ok {P : Program} {l : List (Nat × Ti)} (h : all4 P l) {t : Nat} {i : Ti} (hm : (t, i) ∈ l) : RowOk P t i :=
 ⟨List.map_inj_left.1 h.1 _ hm, List.map_inj_left.1 h.2.1 _ hm, List.all_eq_true.1 h.2.2.1 _ hm, List.all_eq_true.1 h.2.2.2 _ hm⟩
theorem rows_ok : all4 Tryz.prog rows := ⟨by kernel_rfl, by kernel_rfl, by kernel_rfl, by kernel_rfl⟩
theorem fns_ok : all4 Tryz.prog (fns.map fun t => (t, fnT)) := ⟨by kernel_rfl, by kernel_rfl, by kernel_rfl, by kernel_rfl⟩
theorem looks_ok (t : Nat) (i : Ti) (h : looks rows fns t = some i) : RowOk Tryz.prog t i := by
 unfold looks at h
 split at h
 ·rename_i j hj
  injection h with h; subst h
  exact all4_ok rows_ok (look_mem hj)
 ·cases hf : isFn fns t with
  | false => rw [hf] at h; simp at h
  | true =>
   rw [hf] at h; simp at h; subst h
   exact all4_ok fns_ok (List.mem_map.2 ⟨t, isFn_mem hf, rfl⟩)
noncomputable def cx (base : Fr) : Ctx := { P := Tryz.prog, tab := looks rows fns, base := base, ok := looks_ok, mixed := by kernel_rfl }
