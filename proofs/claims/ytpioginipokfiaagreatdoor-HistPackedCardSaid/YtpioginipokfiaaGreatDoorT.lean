/- The types of the program, as a table; the context of the abstract semantics. Printed by table.py. -/
import Derived.Test.YtpioginipokfiaaGreatDoorProg
import Derived.Test.YtpioginipokfiaaGreatDoorAb
import Derived.KernelRfl
set_option maxRecDepth 100000
namespace Go.Proofs.YtpioginipokfiaaGreatDoor
open Go Go.Abs
def look : List (Nat × Ti) → Nat → Option Ti
 | [], _ => none
 | (k, i) :: r, t => bif Nat.beq k t then some i else look r t
def fnT : Ti := ⟨.func, 1, 8, .nilf⟩
def isFn : List Nat → Nat → Bool
 | [], _ => false
 | k :: r, t => bif Nat.beq k t then true else isFn r t
def looks (l : List (Nat × Ti)) (f : List Nat) (t : Nat) : Option Ti :=
 match look l t with
 | some i => some i
 | none => bif isFn f t then some fnT else none
def rows : List (Nat × Ti) := [
(2, ⟨.int .i64, 1, 8, .int .i64 0⟩),
(3, ⟨.int .i64, 1, 8, .int .i64 0⟩),
(4, ⟨.bool, 1, 1, .bool false⟩),
(5, ⟨.int .u8, 1, 1, .int .u8 0⟩),
(9, ⟨.str, 1, 16, .str []⟩),
(12, ⟨.int .u64, 1, 8, .int .u64 0⟩),
(20, ⟨.iface, 1, 16, .nili⟩),
(21, ⟨.int .i32, 1, 4, .int .i32 0⟩),
(22, ⟨.sl 29, 1, 24, .sl true []⟩),
(24, ⟨.iface, 1, 16, .nili⟩),
(25, ⟨.iface, 1, 16, .nili⟩),
(28, ⟨.sl 66, 1, 24, .sl true []⟩),
(29, ⟨.int .u64, 1, 8, .int .u64 0⟩),
(31, ⟨.struct [(0, 4), (1, 29)], 2, 16, .agg [.bool false, .int .u64 0]⟩),
(32, ⟨.sl 58, 1, 24, .sl true []⟩),
(33, ⟨.int .u32, 1, 4, .int .u32 0⟩),
(35, ⟨.struct [(0, 28), (1, 29), (2, 29), (3, 29), (4, 31), (6, 31), (8, 31), (10, 22), (11, 22), (12, 32), (13, 33), (14, 9)], 15, 192, .agg [.sl true [], .int .u64 0, .int .u64 0, .int .u64 0, .bool false, .int .u64 0, .bool false, .int .u64 0, .bool false, .int .u64 0, .sl true [], .sl true [], .sl true [], .int .u32 0, .str []]⟩),
(46, ⟨.int .i64, 1, 8, .int .i64 0⟩),
(47, ⟨.ptr, 1, 8, .nilp⟩),
(48, ⟨.sl 5, 1, 24, .sl true []⟩),
(50, ⟨.struct [(0, 47), (1, 48)], 2, 32, .agg [.nilp, .sl true []]⟩),
(52, ⟨.struct [(0, 50)], 2, 32, .agg [.nilp, .sl true []]⟩),
(58, ⟨.struct [(0, 28), (1, 29), (2, 3), (3, 29), (4, 9), (5, 9), (6, 9)], 7, 96, .agg [.sl true [], .int .u64 0, .int .i64 0, .int .u64 0, .str [], .str [], .str []]⟩),
(59, ⟨.ptr, 1, 8, .nilp⟩),
(62, ⟨.sl 64, 1, 24, .sl true []⟩),
(64, ⟨.struct [(0, 3), (1, 9), (2, 4), (3, 29), (4, 62), (5, 28), (6, 9), (7, 9)], 8, 120, .agg [.int .i64 0, .str [], .bool false, .int .u64 0, .sl true [], .sl true [], .str [], .str []]⟩),
(66, ⟨.struct [(0, 9), (1, 4), (2, 64), (10, 9)], 11, 160, .agg [.str [], .bool false, .int .i64 0, .str [], .bool false, .int .u64 0, .sl true [], .sl true [], .str [], .str [], .str []]⟩),
(70, ⟨.ptr, 1, 8, .nilp⟩),
(80, ⟨.sl 119, 1, 24, .sl true []⟩),
(82, ⟨.struct [(0, 25), (1, 9), (2, 3), (3, 3), (4, 80)], 5, 72, .agg [.nili, .str [], .int .i64 0, .int .i64 0, .sl true []]⟩),
(83, ⟨.sl 87, 1, 24, .sl true []⟩),
(87, ⟨.struct [(0, 3), (1, 3), (2, 29), (3, 9), (4, 9)], 5, 56, .agg [.int .i64 0, .int .i64 0, .int .u64 0, .str [], .str []]⟩),
(89, ⟨.sl 3, 1, 24, .sl true []⟩),
(119, ⟨.struct [(0, 3), (1, 3), (2, 29), (3, 9), (4, 9)], 5, 56, .agg [.int .i64 0, .int .i64 0, .int .u64 0, .str [], .str []]⟩),
(134, ⟨.ptr, 1, 8, .nilp⟩),
(136, ⟨.ptr, 1, 8, .nilp⟩),
(138, ⟨.struct [(0, 3), (1, 25)], 2, 24, .agg [.int .i64 0, .nili]⟩),
(139, ⟨.ptr, 1, 8, .nilp⟩),
(142, ⟨.sl 31, 1, 24, .sl true []⟩),
(150, ⟨.ptr, 1, 8, .nilp⟩),
(156, ⟨.ptr, 1, 8, .nilp⟩),
(158, ⟨.struct [(0, 9), (1, 3), (2, 25), (3, 3)], 4, 48, .agg [.str [], .int .i64 0, .nili, .int .i64 0]⟩),
(163, ⟨.sl 9, 1, 24, .sl true []⟩),
(165, ⟨.struct [(0, 3), (1, 29), (2, 9), (3, 163)], 4, 56, .agg [.int .i64 0, .int .u64 0, .str [], .sl true []]⟩),
(168, ⟨.struct [(0, 62), (1, 9)], 2, 40, .agg [.sl true [], .str []]⟩),
(173, ⟨.struct [(0, 28), (1, 9)], 2, 40, .agg [.sl true [], .str []]⟩),
(189, ⟨.iface, 1, 16, .nili⟩),
(204, ⟨.ptr, 1, 8, .nilp⟩),
(206, ⟨.struct [(0, 3), (1, 25)], 2, 24, .agg [.int .i64 0, .nili]⟩),
(210, ⟨.ptr, 1, 8, .nilp⟩),
(220, ⟨.int .u64, 1, 8, .int .u64 0⟩),
(229, ⟨.iface, 1, 16, .nili⟩),
(232, ⟨.iface, 1, 16, .nili⟩),
(234, ⟨.iface, 1, 16, .nili⟩),
(235, ⟨.sl 25, 1, 24, .sl true []⟩),
(268, ⟨.int .u16, 1, 2, .int .u16 0⟩),
(271, ⟨.sl 274, 1, 24, .sl true []⟩),
(275, ⟨.ptr, 1, 8, .nilp⟩)]
def fns : List Nat := [1, 23, 27, 37, 38, 39, 41, 42, 43, 44, 45, 53, 54, 55, 56, 60, 61, 67, 68, 69, 71, 72, 73, 74, 75, 76, 77, 78, 79, 85, 88, 90, 92, 94, 96, 98, 99, 100, 101, 102, 103, 104, 105, 106, 107, 109, 110, 111, 112, 113, 114, 115, 116, 118, 120, 121, 123, 124, 125, 126, 127, 128, 130, 131, 132, 133, 135, 140, 141, 143, 144, 145, 146, 147, 148, 149, 151, 152, 153, 154, 155, 159, 161, 162, 166, 169, 170, 171, 174, 175, 176, 180, 181, 182, 183, 188, 191, 193, 194, 195, 196, 197, 198, 199, 200, 201, 202, 203, 208, 209, 211, 213, 214, 215, 216, 217, 219, 221, 222, 226, 227, 228, 231, 233, 236, 237, 238, 239, 243, 244, 245, 246, 247, 248, 254, 255, 257, 262, 263, 267]
theorem look_mem : ∀ {l : List (Nat × Ti)} {t : Nat} {i : Ti}, look l t = some i → (t, i) ∈ l
 | [], t, i, h => by simp [look] at h
 | (k, j) :: r, t, i, h => by
  unfold look at h
  cases hb : Nat.beq k t with
  | true => rw [hb] at h; simp at h; subst h; rw [Nat.eq_of_beq_eq_true hb]; exact List.mem_cons_self ..
  | false => rw [hb] at h; exact List.mem_cons_of_mem _ (look_mem h)
theorem isFn_mem : ∀ {l : List Nat} {t : Nat}, isFn l t = true → t ∈ l
 | [], t, h => by simp [isFn] at h
 | k :: r, t, h => by
  unfold isFn at h
  cases hb : Nat.beq k t with
  | true => rw [Nat.eq_of_beq_eq_true hb]; exact List.mem_cons_self ..
  | false => rw [hb] at h; exact List.mem_cons_of_mem _ (isFn_mem h)
def all4 (P : Program) (l : List (Nat × Ti)) : Prop := (l.map fun r => (P.info? r.1).map fun j => (j.size, j.bytes, j.zero)) = (l.map fun r => some (r.2.size, r.2.bytes, some (zv r.2.zero))) ∧ (l.map fun r => (P.underlying r.1).map r.2.ty.fits) = (l.map fun _ => some true) ∧ (l.all fun r => zvOk r.2) = true ∧
  (l.all fun r => match r.2.ty with | .struct fs => fs.all fun p => (P.info? p.2).isSome | _ => true) = true
theorem all4_ok {P : Program} {l : List (Nat × Ti)} (h : all4 P l) {t : Nat} {i : Ti} (hm : (t, i) ∈ l) : RowOk P t i :=
 ⟨List.map_inj_left.1 h.1 _ hm, List.map_inj_left.1 h.2.1 _ hm, List.all_eq_true.1 h.2.2.1 _ hm, List.all_eq_true.1 h.2.2.2 _ hm⟩
theorem rows_ok : all4 Tryz.prog rows := ⟨by kernel_rfl, by kernel_rfl, by kernel_rfl, by kernel_rfl⟩
theorem fns_ok : all4 Tryz.prog (fns.map fun t => (t, fnT)) := ⟨by kernel_rfl, by kernel_rfl, by kernel_rfl, by kernel_rfl⟩
theorem looks_ok (t : Nat) (i : Ti) (h : looks rows fns t = some i) : RowOk Tryz.prog t i := by
 unfold looks at h
 split at h
 ·rename_i j hj
  injection h with h; subst h
  exact all4_ok rows_ok (look_mem hj)
 ·cases hf : isFn fns t with
  | false => rw [hf] at h; simp at h
  | true =>
   rw [hf] at h; simp at h; subst h
   exact all4_ok fns_ok (List.mem_map.2 ⟨t, isFn_mem hf, rfl⟩)
noncomputable def cx (base : Fr) : Ctx := { P := Tryz.prog, tab := looks rows fns, base := base, ok := looks_ok, mixed := by kernel_rfl }
