/- The types of the program, as a table; the context of the abstract semantics. Printed by table.py. -/
import Derived.Test.YtnaojdjhjkendaaGreatDoorProg
import Derived.Test.YtnaojdjhjkendaaGreatDoorAb
import Derived.KernelRfl
set_option maxRecDepth 100000
namespace Go.Proofs.YtnaojdjhjkendaaGreatDoor
open Go Go.Abs
def look : List (Nat × Ti) → Nat → Option Ti
 | [], _ => none
 | (k, i) :: r, t => bif Nat.beq k t then some i else look r t
def fnT : Ti := ⟨.func, 1, 8, .nilf⟩
def isFn : List Nat → Nat → Bool
 | [], _ => false
 | k :: r, t => bif Nat.beq k t then true else isFn r t
def looks (l : List (Nat × Ti)) (f : List Nat) (t : Nat) : Option Ti :=
 match look l t with
 | some i => some i
 | none => bif isFn f t then some fnT else none
def rows : List (Nat × Ti) := [
(2, ⟨.int .i64, 1, 8, .int .i64 0⟩),
(3, ⟨.int .i64, 1, 8, .int .i64 0⟩),
(4, ⟨.bool, 1, 1, .bool false⟩),
(5, ⟨.int .u8, 1, 1, .int .u8 0⟩),
(9, ⟨.str, 1, 16, .str []⟩),
(12, ⟨.int .u64, 1, 8, .int .u64 0⟩),
(20, ⟨.iface, 1, 16, .nili⟩),
(21, ⟨.int .i32, 1, 4, .int .i32 0⟩),
(23, ⟨.sl 88, 1, 24, .sl true []⟩),
(24, ⟨.sl 94, 1, 24, .sl true []⟩),
(25, ⟨.sl 99, 1, 24, .sl true []⟩),
(26, ⟨.sl 103, 1, 24, .sl true []⟩),
(27, ⟨.sl 64, 1, 24, .sl true []⟩),
(29, ⟨.struct [(0, 9), (1, 9), (2, 9), (3, 3), (4, 21), (5, 4), (6, 23), (7, 24), (8, 25), (9, 26), (10, 27), (11, 9), (12, 9)], 13, 216, .agg [.str [], .str [], .str [], .int .i64 0, .int .i32 0, .bool false, .sl true [], .sl true [], .sl true [], .sl true [], .sl true [], .str [], .str []]⟩),
(30, ⟨.iface, 1, 16, .nili⟩),
(31, ⟨.iface, 1, 16, .nili⟩),
(45, ⟨.int .i64, 1, 8, .int .i64 0⟩),
(47, ⟨.ptr, 1, 8, .nilp⟩),
(50, ⟨.int .u64, 1, 8, .int .u64 0⟩),
(51, ⟨.sl 9, 1, 24, .sl true []⟩),
(53, ⟨.struct [(0, 3), (1, 50), (2, 9), (3, 51)], 4, 56, .agg [.int .i64 0, .int .u64 0, .str [], .sl true []]⟩),
(60, ⟨.sl 62, 1, 24, .sl true []⟩),
(62, ⟨.struct [(0, 3), (1, 9), (2, 4), (3, 50), (4, 60), (5, 27), (6, 9), (7, 9)], 8, 120, .agg [.int .i64 0, .str [], .bool false, .int .u64 0, .sl true [], .sl true [], .str [], .str []]⟩),
(64, ⟨.struct [(0, 9), (1, 4), (2, 62), (10, 9)], 11, 160, .agg [.str [], .bool false, .int .i64 0, .str [], .bool false, .int .u64 0, .sl true [], .sl true [], .str [], .str [], .str []]⟩),
(66, ⟨.sl 140, 1, 24, .sl true []⟩),
(68, ⟨.struct [(0, 31), (1, 9), (2, 3), (3, 3), (4, 66)], 5, 72, .agg [.nili, .str [], .int .i64 0, .int .i64 0, .sl true []]⟩),
(69, ⟨.sl 73, 1, 24, .sl true []⟩),
(73, ⟨.struct [(0, 3), (1, 3), (2, 50), (3, 9), (4, 9)], 5, 56, .agg [.int .i64 0, .int .i64 0, .int .u64 0, .str [], .str []]⟩),
(75, ⟨.sl 3, 1, 24, .sl true []⟩),
(85, ⟨.sl 239, 1, 24, .sl true []⟩),
(86, ⟨.int .u32, 1, 4, .int .u32 0⟩),
(88, ⟨.struct [(0, 27), (1, 50), (2, 50), (3, 3), (4, 50), (5, 85), (6, 86), (7, 9)], 8, 104, .agg [.sl true [], .int .u64 0, .int .u64 0, .int .i64 0, .int .u64 0, .sl true [], .int .u32 0, .str []]⟩),
(91, ⟨.struct [(0, 4), (1, 50)], 2, 16, .agg [.bool false, .int .u64 0]⟩),
(92, ⟨.sl 50, 1, 24, .sl true []⟩),
(94, ⟨.struct [(0, 27), (1, 50), (2, 50), (3, 50), (4, 91), (6, 91), (8, 91), (10, 92), (11, 92), (12, 85), (13, 86), (14, 9)], 15, 192, .agg [.sl true [], .int .u64 0, .int .u64 0, .int .u64 0, .bool false, .int .u64 0, .bool false, .int .u64 0, .bool false, .int .u64 0, .sl true [], .sl true [], .sl true [], .int .u32 0, .str []]⟩),
(97, ⟨.struct [(0, 21), (1, 92), (2, 9)], 3, 48, .agg [.int .i32 0, .sl true [], .str []]⟩),
(99, ⟨.struct [(0, 27), (1, 50), (2, 50), (3, 50), (4, 91), (6, 91), (8, 91), (10, 21), (11, 50), (12, 4), (13, 97), (16, 4), (17, 97), (20, 85), (21, 86), (22, 50), (23, 9)], 24, 280, .agg [.sl true [], .int .u64 0, .int .u64 0, .int .u64 0, .bool false, .int .u64 0, .bool false, .int .u64 0, .bool false, .int .u64 0, .int .i32 0, .int .u64 0, .bool false, .int .i32 0, .sl true [], .str [], .bool false, .int .i32 0, .sl true [], .str [], .sl true [], .int .u32 0, .int .u64 0, .str []]⟩),
(101, ⟨.sl 183, 1, 24, .sl true []⟩),
(103, ⟨.struct [(0, 27), (1, 50), (2, 50), (3, 50), (4, 50), (5, 101), (6, 86), (7, 9)], 8, 104, .agg [.sl true [], .int .u64 0, .int .u64 0, .int .u64 0, .int .u64 0, .sl true [], .int .u32 0, .str []]⟩),
(117, ⟨.ptr, 1, 8, .nilp⟩),
(118, ⟨.sl 5, 1, 24, .sl true []⟩),
(120, ⟨.struct [(0, 117), (1, 118)], 2, 32, .agg [.nilp, .sl true []]⟩),
(122, ⟨.struct [(0, 120)], 2, 32, .agg [.nilp, .sl true []]⟩),
(126, ⟨.ptr, 1, 8, .nilp⟩),
(135, ⟨.ptr, 1, 8, .nilp⟩),
(140, ⟨.struct [(0, 3), (1, 3), (2, 50), (3, 9), (4, 9)], 5, 56, .agg [.int .i64 0, .int .i64 0, .int .u64 0, .str [], .str []]⟩),
(173, ⟨.ptr, 1, 8, .nilp⟩),
(174, ⟨.ptr, 1, 8, .nilp⟩),
(176, ⟨.struct [(0, 3), (1, 31)], 2, 24, .agg [.int .i64 0, .nili]⟩),
(183, ⟨.struct [(0, 50), (1, 50), (2, 9)], 3, 32, .agg [.int .u64 0, .int .u64 0, .str []]⟩),
(203, ⟨.sl 4, 1, 24, .sl true []⟩),
(222, ⟨.iface, 1, 16, .nili⟩),
(230, ⟨.ptr, 1, 8, .nilp⟩),
(232, ⟨.struct [(0, 9), (1, 3), (2, 31), (3, 3)], 4, 48, .agg [.str [], .int .i64 0, .nili, .int .i64 0]⟩),
(234, ⟨.ptr, 1, 8, .nilp⟩),
(239, ⟨.struct [(0, 27), (1, 50), (2, 3), (3, 50), (4, 9), (5, 9), (6, 9)], 7, 96, .agg [.sl true [], .int .u64 0, .int .i64 0, .int .u64 0, .str [], .str [], .str []]⟩),
(258, ⟨.struct [(0, 60), (1, 9)], 2, 40, .agg [.sl true [], .str []]⟩),
(263, ⟨.struct [(0, 27), (1, 9)], 2, 40, .agg [.sl true [], .str []]⟩),
(309, ⟨.int .u64, 1, 8, .int .u64 0⟩),
(321, ⟨.iface, 1, 16, .nili⟩),
(324, ⟨.iface, 1, 16, .nili⟩),
(326, ⟨.iface, 1, 16, .nili⟩),
(327, ⟨.sl 31, 1, 24, .sl true []⟩),
(329, ⟨.ptr, 1, 8, .nilp⟩),
(331, ⟨.struct [(0, 3), (1, 31)], 2, 24, .agg [.int .i64 0, .nili]⟩),
(335, ⟨.ptr, 1, 8, .nilp⟩),
(367, ⟨.sl 91, 1, 24, .sl true []⟩),
(414, ⟨.int .u16, 1, 2, .int .u16 0⟩),
(417, ⟨.sl 420, 1, 24, .sl true []⟩),
(421, ⟨.ptr, 1, 8, .nilp⟩)]
def fns : List Nat := [1, 22, 33, 35, 36, 37, 38, 39, 40, 42, 43, 44, 46, 48, 49, 54, 55, 56, 57, 58, 59, 65, 71, 74, 76, 77, 79, 80, 82, 83, 84, 89, 95, 100, 104, 105, 106, 107, 108, 109, 110, 111, 112, 113, 114, 115, 116, 123, 124, 125, 127, 128, 129, 130, 131, 132, 133, 134, 136, 137, 139, 142, 143, 144, 145, 146, 147, 148, 149, 150, 151, 152, 153, 154, 155, 156, 157, 158, 159, 161, 162, 163, 164, 166, 168, 170, 172, 177, 178, 179, 180, 181, 184, 185, 186, 187, 188, 189, 190, 191, 192, 193, 194, 195, 196, 197, 198, 199, 200, 201, 202, 204, 205, 206, 207, 208, 209, 210, 211, 212, 213, 214, 215, 216, 221, 224, 226, 227, 228, 229, 233, 235, 236, 237, 240, 242, 243, 244, 245, 246, 247, 249, 250, 251, 252, 253, 254, 256, 259, 260, 261, 264, 265, 266, 268, 269, 270, 272, 274, 275, 277, 278, 279, 280, 281, 282, 283, 284, 285, 286, 287, 288, 289, 290, 291, 292, 293, 294, 295, 296, 297, 298, 299, 300, 301, 302, 303, 304, 305, 306, 307, 308, 310, 311, 312, 313, 314, 318, 319, 320, 323, 325, 328, 333, 334, 336, 338, 340, 341, 343, 345, 347, 348, 349, 351, 352, 353, 354, 355, 357, 358, 359, 360, 361, 362, 363, 364, 365, 366, 368, 369, 370, 371, 372, 373, 374, 375, 376, 377, 378, 385, 386, 387, 388, 389, 390, 391, 393, 394, 400, 401, 403, 408, 409, 413]
theorem look_mem : ∀ {l : List (Nat × Ti)} {t : Nat} {i : Ti}, look l t = some i → (t, i) ∈ l
 | [], t, i, h => by simp [look] at h
 | (k, j) :: r, t, i, h => by
  unfold look at h
  cases hb : Nat.beq k t with
  | true => rw [hb] at h; simp at h; subst h; rw [Nat.eq_of_beq_eq_true hb]; exact List.mem_cons_self ..
  | false => rw [hb] at h; exact List.mem_cons_of_mem _ (look_mem h)
theorem isFn_mem : ∀ {l : List Nat} {t : Nat}, isFn l t = true → t ∈ l
 | [], t, h => by simp [isFn] at h
 | k :: r, t, h => by
  unfold isFn at h
  cases hb : Nat.beq k t with
  | true => rw [Nat.eq_of_beq_eq_true hb]; exact List.mem_cons_self ..
  | false => rw [hb] at h; exact List.mem_cons_of_mem _ (isFn_mem h)
def all4 (P : Program) (l : List (Nat × Ti)) : Prop := (l.map fun r => (P.info? r.1).map fun j => (j.size, j.bytes, j.zero)) = (l.map fun r => some (r.2.size, r.2.bytes, some (zv r.2.zero))) ∧ (l.map fun r => (P.underlying r.1).map r.2.ty.fits) = (l.map fun _ => some true) ∧ (l.all fun r => zvOk r.2) = true ∧
  (l.all fun r => match r.2.ty with | .struct fs => fs.all fun p => (P.info? p.2).isSome | _ => true) = true
theorem all4_ok {P : Program} {l : List (Nat × Ti)} (h : all4 P l) {t : Nat} {i : Ti} (hm : (t, i) ∈ l) : RowOk P t i :=
 ⟨List.map_inj_left.1 h.1 _ hm, List.map_inj_left.1 h.2.1 _ hm, List.all_eq_true.1 h.2.2.1 _ hm, List.all_eq_true.1 h.2.2.2 _ hm⟩
theorem rows_ok : all4 Tryz.prog rows := ⟨by kernel_rfl, by kernel_rfl, by kernel_rfl, by kernel_rfl⟩
theorem fns_ok : all4 Tryz.prog (fns.map fun t => (t, fnT)) := ⟨by kernel_rfl, by kernel_rfl, by kernel_rfl, by kernel_rfl⟩
theorem looks_ok (t : Nat) (i : Ti) (h : looks rows fns t = some i) : RowOk Tryz.prog t i := by
 unfold looks at h
 split at h
 ·rename_i j hj
  injection h with h; subst h
  exact all4_ok rows_ok (look_mem hj)
 ·cases hf : isFn fns t with
  | false => rw [hf] at h; simp at h
  | true =>
   rw [hf] at h; simp at h; subst h
   exact all4_ok fns_ok (List.mem_map.2 ⟨t, isFn_mem hf, rfl⟩)
noncomputable def cx (base : Fr) : Ctx := { P := Tryz.prog, tab := looks rows fns, base := base, ok := looks_ok, mixed := by kernel_rfl }
