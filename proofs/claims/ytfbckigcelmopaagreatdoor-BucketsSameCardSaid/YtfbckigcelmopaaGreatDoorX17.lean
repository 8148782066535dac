/- Numbers folded and unfolded; buckets written. -/
import Derived.Test.YtfbckigcelmopaaGreatDoorX16
set_option linter.unusedSimpArgs false
set_option linter.unusedVariables false
set_option maxRecDepth 100000
namespace Go.Proofs.YtfbckigcelmopaaGreatDoor
open Go Go.Abs
variable (B : Fr)
theorem xor0 (a : Nat) (h : a < 4294967296) : (BitVec.ofInt IntKind.u32.bits (a : Int) ^^^ BitVec.ofInt IntKind.u32.bits 0).toNat = a := by
  show (BitVec.ofInt 32 (a : Int) ^^^ BitVec.ofInt 32 0).toNat = a
  rw [show BitVec.ofInt 32 0 = 0#32 from rfl, BitVec.xor_zero, ofN, BitVec.toNat_ofNat]
  exact Nat.mod_eq_of_lt h
theorem xor1 (a : Nat) (h : a < 4294967296) : (BitVec.ofInt IntKind.u32.bits (a : Int) ^^^ BitVec.ofInt IntKind.u32.bits 4294967295).toNat = 4294967295 - a := by
  show (BitVec.ofInt 32 (a : Int) ^^^ BitVec.ofInt 32 4294967295).toNat = 4294967295 - a
  rw [show BitVec.ofInt 32 4294967295 = BitVec.allOnes 32 by decide, BitVec.xor_allOnes, BitVec.toNat_not, ofN, BitVec.toNat_ofNat, Nat.mod_eq_of_lt (by show a < 2 ^ 32; omega)]
def zig32 (o : Int) : Nat := if 0 ≤ o then (2 * o).toNat else (-2 * o - 1).toNat
theorem Zig32_calls (o : Int) (h1 : -2147483648 ≤ o) (h2 : o < 2147483648) : CallsA (cx B) 44 [.d (.int .i32 o)] [] (uT (zig32 o)) [] := by
  refine l_body (X := cx B) (fn := Tryz.f44) Tryz.func44 rfl rfl rfl rfl rfl 0 [] rfl rfl ?_
  refine walk ?_
  have key : IntKind.u64.wrap (IntKind.u32.wrap ((BitVec.ofInt IntKind.u32.bits (IntKind.u32.wrap (IntKind.u32.wrap o * 2 ^ min 1 IntKind.u32.bits)) ^^^ BitVec.ofInt IntKind.u32.bits (IntKind.u32.wrap (Int.fdiv o (2 ^ min 31 IntKind.i32.bits)))).toNat : Int)) = (zig32 o : Int) := by
    rw [show min 1 IntKind.u32.bits = 1 from rfl, show min 31 IntKind.i32.bits = 31 from rfl, Int.fdiv_eq_ediv_of_nonneg _ (by decide)]
    by_cases ho : 0 ≤ o
    · have e1 : o / 2 ^ 31 = 0 := by omega
      have e2 : IntKind.u32.wrap (IntKind.u32.wrap o * 2 ^ 1) = (((2 * o).toNat : Nat) : Int) := by rw [IntKind.wrap_u32, IntKind.wrap_u32]; omega
      rw [e1, e2, show IntKind.u32.wrap 0 = 0 from rfl, xor0 _ (by omega), show zig32 o = (2 * o).toNat from if_pos ho, IntKind.wrap_u32, IntKind.wrap_u64]; omega
    · have e1 : o / 2 ^ 31 = -1 := by omega
      have e2 : IntKind.u32.wrap (IntKind.u32.wrap o * 2 ^ 1) = (((2 * o + 4294967296).toNat : Nat) : Int) := by rw [IntKind.wrap_u32, IntKind.wrap_u32]; omega
      rw [e1, e2, show IntKind.u32.wrap (-1) = 4294967295 from rfl, xor1 _ (by omega), show zig32 o = (-2 * o - 1).toNat from if_neg ho, IntKind.wrap_u32, IntKind.wrap_u64]; omega
  rw [key]
  exact l_end trivial (by decide) rfl rfl rfl rfl rfl
end Go.Proofs.YtfbckigcelmopaaGreatDoor
