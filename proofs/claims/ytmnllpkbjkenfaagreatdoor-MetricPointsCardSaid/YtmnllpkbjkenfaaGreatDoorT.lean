/- The types of the program, as a table; the context of the abstract semantics. Printed by table.py. -/
import Derived.Test.YtmnllpkbjkenfaaGreatDoorProg
import Derived.Test.YtmnllpkbjkenfaaGreatDoorAb
import Derived.KernelRfl
set_option maxRecDepth 100000
namespace Go.Proofs.YtmnllpkbjkenfaaGreatDoor
open Go Go.Abs
def look : List (Nat × Ti) → Nat → Option Ti
 | [], _ => none
 | (k, i) :: r, t => bif Nat.beq k t then some i else look r t
def fnT : Ti := ⟨.func, 1, 8, .nilf⟩
def isFn : List Nat → Nat → Bool
 | [], _ => false
 | k :: r, t => bif Nat.beq k t then true else isFn r t
def looks (l : List (Nat × Ti)) (f : List Nat) (t : Nat) : Option Ti :=
 match look l t with
 | some i => some i
 | none => bif isFn f t then some fnT else none
def rows : List (Nat × Ti) := [
(2, ⟨.int .i64, 1, 8, .int .i64 0⟩),
(3, ⟨.int .i64, 1, 8, .int .i64 0⟩),
(4, ⟨.bool, 1, 1, .bool false⟩),
(5, ⟨.int .u8, 1, 1, .int .u8 0⟩),
(9, ⟨.str, 1, 16, .str []⟩),
(12, ⟨.int .u64, 1, 8, .int .u64 0⟩),
(20, ⟨.iface, 1, 16, .nili⟩),
(21, ⟨.int .i32, 1, 4, .int .i32 0⟩),
(23, ⟨.sl 81, 1, 24, .sl true []⟩),
(24, ⟨.sl 87, 1, 24, .sl true []⟩),
(25, ⟨.sl 92, 1, 24, .sl true []⟩),
(26, ⟨.sl 96, 1, 24, .sl true []⟩),
(27, ⟨.sl 70, 1, 24, .sl true []⟩),
(29, ⟨.struct [(0, 9), (1, 9), (2, 9), (3, 3), (4, 21), (5, 4), (6, 23), (7, 24), (8, 25), (9, 26), (10, 27), (11, 9), (12, 9)], 13, 216, .agg [.str [], .str [], .str [], .int .i64 0, .int .i32 0, .bool false, .sl true [], .sl true [], .sl true [], .sl true [], .sl true [], .str [], .str []]⟩),
(30, ⟨.iface, 1, 16, .nili⟩),
(31, ⟨.iface, 1, 16, .nili⟩),
(46, ⟨.int .i64, 1, 8, .int .i64 0⟩),
(51, ⟨.int .u64, 1, 8, .int .u64 0⟩),
(54, ⟨.ptr, 1, 8, .nilp⟩),
(57, ⟨.sl 9, 1, 24, .sl true []⟩),
(59, ⟨.struct [(0, 3), (1, 51), (2, 9), (3, 57)], 4, 56, .agg [.int .i64 0, .int .u64 0, .str [], .sl true []]⟩),
(66, ⟨.sl 68, 1, 24, .sl true []⟩),
(68, ⟨.struct [(0, 3), (1, 9), (2, 4), (3, 51), (4, 66), (5, 27), (6, 9), (7, 9)], 8, 120, .agg [.int .i64 0, .str [], .bool false, .int .u64 0, .sl true [], .sl true [], .str [], .str []]⟩),
(70, ⟨.struct [(0, 9), (1, 4), (2, 68), (10, 9)], 11, 160, .agg [.str [], .bool false, .int .i64 0, .str [], .bool false, .int .u64 0, .sl true [], .sl true [], .str [], .str [], .str []]⟩),
(72, ⟨.sl 153, 1, 24, .sl true []⟩),
(74, ⟨.struct [(0, 31), (1, 9), (2, 3), (3, 3), (4, 72)], 5, 72, .agg [.nili, .str [], .int .i64 0, .int .i64 0, .sl true []]⟩),
(78, ⟨.sl 241, 1, 24, .sl true []⟩),
(79, ⟨.int .u32, 1, 4, .int .u32 0⟩),
(81, ⟨.struct [(0, 27), (1, 51), (2, 51), (3, 3), (4, 51), (5, 78), (6, 79), (7, 9)], 8, 104, .agg [.sl true [], .int .u64 0, .int .u64 0, .int .i64 0, .int .u64 0, .sl true [], .int .u32 0, .str []]⟩),
(84, ⟨.struct [(0, 4), (1, 51)], 2, 16, .agg [.bool false, .int .u64 0]⟩),
(85, ⟨.sl 51, 1, 24, .sl true []⟩),
(87, ⟨.struct [(0, 27), (1, 51), (2, 51), (3, 51), (4, 84), (6, 84), (8, 84), (10, 85), (11, 85), (12, 78), (13, 79), (14, 9)], 15, 192, .agg [.sl true [], .int .u64 0, .int .u64 0, .int .u64 0, .bool false, .int .u64 0, .bool false, .int .u64 0, .bool false, .int .u64 0, .sl true [], .sl true [], .sl true [], .int .u32 0, .str []]⟩),
(90, ⟨.struct [(0, 21), (1, 85), (2, 9)], 3, 48, .agg [.int .i32 0, .sl true [], .str []]⟩),
(92, ⟨.struct [(0, 27), (1, 51), (2, 51), (3, 51), (4, 84), (6, 84), (8, 84), (10, 21), (11, 51), (12, 4), (13, 90), (16, 4), (17, 90), (20, 78), (21, 79), (22, 51), (23, 9)], 24, 280, .agg [.sl true [], .int .u64 0, .int .u64 0, .int .u64 0, .bool false, .int .u64 0, .bool false, .int .u64 0, .bool false, .int .u64 0, .int .i32 0, .int .u64 0, .bool false, .int .i32 0, .sl true [], .str [], .bool false, .int .i32 0, .sl true [], .str [], .sl true [], .int .u32 0, .int .u64 0, .str []]⟩),
(94, ⟨.sl 180, 1, 24, .sl true []⟩),
(96, ⟨.struct [(0, 27), (1, 51), (2, 51), (3, 51), (4, 51), (5, 94), (6, 79), (7, 9)], 8, 104, .agg [.sl true [], .int .u64 0, .int .u64 0, .int .u64 0, .int .u64 0, .sl true [], .int .u32 0, .str []]⟩),
(97, ⟨.ptr, 1, 8, .nilp⟩),
(98, ⟨.sl 5, 1, 24, .sl true []⟩),
(100, ⟨.struct [(0, 97), (1, 98)], 2, 32, .agg [.nilp, .sl true []]⟩),
(102, ⟨.struct [(0, 100)], 2, 32, .agg [.nilp, .sl true []]⟩),
(106, ⟨.ptr, 1, 8, .nilp⟩),
(110, ⟨.sl 114, 1, 24, .sl true []⟩),
(114, ⟨.struct [(0, 3), (1, 3), (2, 51), (3, 9), (4, 9)], 5, 56, .agg [.int .i64 0, .int .i64 0, .int .u64 0, .str [], .str []]⟩),
(116, ⟨.sl 3, 1, 24, .sl true []⟩),
(130, ⟨.int .u64, 1, 8, .int .u64 0⟩),
(132, ⟨.ptr, 1, 8, .nilp⟩),
(153, ⟨.struct [(0, 3), (1, 3), (2, 51), (3, 9), (4, 9)], 5, 56, .agg [.int .i64 0, .int .i64 0, .int .u64 0, .str [], .str []]⟩),
(180, ⟨.struct [(0, 51), (1, 51), (2, 9)], 3, 32, .agg [.int .u64 0, .int .u64 0, .str []]⟩),
(203, ⟨.ptr, 1, 8, .nilp⟩),
(204, ⟨.ptr, 1, 8, .nilp⟩),
(206, ⟨.struct [(0, 3), (1, 31)], 2, 24, .agg [.int .i64 0, .nili]⟩),
(217, ⟨.iface, 1, 16, .nili⟩),
(228, ⟨.sl 4, 1, 24, .sl true []⟩),
(241, ⟨.struct [(0, 27), (1, 51), (2, 3), (3, 51), (4, 9), (5, 9), (6, 9)], 7, 96, .agg [.sl true [], .int .u64 0, .int .i64 0, .int .u64 0, .str [], .str [], .str []]⟩),
(245, ⟨.ptr, 1, 8, .nilp⟩),
(247, ⟨.struct [(0, 9), (1, 3), (2, 31), (3, 3)], 4, 48, .agg [.str [], .int .i64 0, .nili, .int .i64 0]⟩),
(249, ⟨.ptr, 1, 8, .nilp⟩),
(271, ⟨.struct [(0, 66), (1, 9)], 2, 40, .agg [.sl true [], .str []]⟩),
(276, ⟨.struct [(0, 27), (1, 9)], 2, 40, .agg [.sl true [], .str []]⟩),
(309, ⟨.iface, 1, 16, .nili⟩),
(312, ⟨.iface, 1, 16, .nili⟩),
(314, ⟨.iface, 1, 16, .nili⟩),
(315, ⟨.sl 31, 1, 24, .sl true []⟩),
(340, ⟨.ptr, 1, 8, .nilp⟩),
(342, ⟨.struct [(0, 3), (1, 31)], 2, 24, .agg [.int .i64 0, .nili]⟩),
(346, ⟨.ptr, 1, 8, .nilp⟩),
(378, ⟨.sl 84, 1, 24, .sl true []⟩),
(424, ⟨.int .u16, 1, 2, .int .u16 0⟩),
(427, ⟨.sl 430, 1, 24, .sl true []⟩),
(431, ⟨.ptr, 1, 8, .nilp⟩)]
def fns : List Nat := [1, 22, 33, 34, 35, 36, 38, 39, 41, 42, 43, 44, 45, 47, 48, 49, 50, 52, 53, 55, 56, 60, 61, 62, 63, 64, 65, 71, 75, 76, 77, 82, 88, 93, 103, 104, 105, 107, 108, 109, 112, 115, 117, 118, 120, 121, 123, 124, 125, 126, 127, 128, 129, 131, 133, 134, 135, 136, 137, 138, 139, 140, 141, 142, 143, 144, 145, 146, 147, 148, 149, 150, 152, 155, 156, 157, 158, 159, 160, 161, 162, 163, 164, 165, 166, 167, 168, 169, 170, 171, 172, 174, 175, 176, 177, 178, 181, 182, 183, 184, 185, 186, 187, 188, 189, 190, 191, 192, 193, 194, 196, 198, 200, 202, 207, 208, 209, 210, 211, 216, 219, 221, 222, 223, 224, 225, 226, 227, 229, 230, 231, 232, 233, 234, 235, 236, 237, 238, 239, 242, 243, 244, 248, 250, 251, 252, 253, 255, 256, 257, 258, 259, 260, 262, 263, 264, 265, 266, 267, 269, 272, 273, 274, 277, 278, 279, 280, 281, 282, 283, 284, 285, 286, 287, 288, 289, 290, 291, 293, 294, 295, 297, 299, 300, 302, 306, 307, 308, 311, 313, 316, 317, 318, 319, 320, 321, 322, 323, 324, 325, 326, 327, 328, 329, 330, 331, 332, 333, 334, 335, 336, 337, 338, 339, 344, 345, 347, 349, 351, 352, 354, 356, 358, 359, 360, 361, 362, 363, 364, 365, 367, 368, 369, 370, 371, 373, 374, 375, 376, 377, 379, 380, 381, 382, 383, 384, 385, 386, 387, 388, 389, 396, 397, 398, 399, 400, 401, 403, 404, 410, 411, 413, 418, 419, 423]
theorem look_mem : ∀ {l : List (Nat × Ti)} {t : Nat} {i : Ti}, look l t = some i → (t, i) ∈ l
 | [], t, i, h => by simp [look] at h
 | (k, j) :: r, t, i, h => by
  unfold look at h
  cases hb : Nat.beq k t with
  | true => rw [hb] at h; simp at h; subst h; rw [Nat.eq_of_beq_eq_true hb]; exact List.mem_cons_self ..
  | false => rw [hb] at h; exact List.mem_cons_of_mem _ (look_mem h)
theorem isFn_mem : ∀ {l : List Nat} {t : Nat}, isFn l t = true → t ∈ l
 | [], t, h => by simp [isFn] at h
 | k :: r, t, h => by
  unfold isFn at h
  cases hb : Nat.beq k t with
  | true => rw [Nat.eq_of_beq_eq_true hb]; exact List.mem_cons_self ..
  | false => rw [hb] at h; exact List.mem_cons_of_mem _ (isFn_mem h)
def all4 (P : Program) (l : List (Nat × Ti)) : Prop := (l.map fun r => (P.info? r.1).map fun j => (j.size, j.bytes, j.zero)) = (l.map fun r => some (r.2.size, r.2.bytes, some (zv r.2.zero))) ∧ (l.map fun r => (P.underlying r.1).map r.2.ty.fits) = (l.map fun _ => some true) ∧ (l.all fun r => zvOk r.2) = true ∧
  (l.all fun r => match r.2.ty with | .struct fs => fs.all fun p => (P.info? p.2).isSome | _ => true) = true
theorem all4_ok {P : Program} {l : List (Nat × Ti)} (h : all4 P l) {t : Nat} {i : Ti} (hm : (t, i) ∈ l) : RowOk P t i :=
 ⟨List.map_inj_left.1 h.1 _ hm, List.map_inj_left.1 h.2.1 _ hm, List.all_eq_true.1 h.2.2.1 _ hm, List.all_eq_true.1 h.2.2.2 _ hm⟩
theorem rows_ok : all4 Tryz.prog rows := ⟨by kernel_rfl, by kernel_rfl, by kernel_rfl, by kernel_rfl⟩
theorem fns_ok : all4 Tryz.prog (fns.map fun t => (t, fnT)) := ⟨by kernel_rfl, by kernel_rfl, by kernel_rfl, by kernel_rfl⟩
theorem looks_ok (t : Nat) (i : Ti) (h : looks rows fns t = some i) : RowOk Tryz.prog t i := by
 unfold looks at h
 split at h
 ·rename_i j hj
  injection h with h; subst h
  exact all4_ok rows_ok (look_mem hj)
 ·cases hf : isFn fns t with
  | false => rw [hf] at h; simp at h
  | true =>
   rw [hf] at h; simp at h; subst h
   exact all4_ok fns_ok (List.mem_map.2 ⟨t, isFn_mem hf, rfl⟩)
noncomputable def cx (base : Fr) : Ctx := { P := Tryz.prog, tab := looks rows fns, base := base, ok := looks_ok, mixed := by kernel_rfl }
