/- Tags and records, written. -/
import Derived.Test.YtfbckigcelmopaaGreatDoorX12
set_option linter.unusedSimpArgs false
set_option linter.unusedVariables false
set_option maxRecDepth 100000
namespace Go.Proofs.YtfbckigcelmopaaGreatDoor
open Go Go.Abs
variable (B : Fr)
def tagV (n k : Nat) : List UInt8 := putV (8 * n + k)
theorem putV_ne (n : Nat) : putV n ≠ [] := by unfold putV vput; split <;> simp
theorem putV_len (n : Nat) : (putV n).length ≤ 10 := vput_len 9 n
theorem Tag_calls (n k : Nat) (h1 : 1 ≤ n) (h2 : n ≤ 536870911) (h3 : k ≤ 5) : CallsA (cx B) 16 [iT n, iT k] [] (sT (tagV n k)) [] := by
  have hor : IntKind.u64.wrap ((BitVec.ofInt IntKind.u64.bits (IntKind.u64.wrap (IntKind.u64.wrap (n : Int) * 2 ^ min 3 IntKind.u64.bits)) ||| BitVec.ofInt IntKind.u64.bits (IntKind.u64.wrap (k : Int))).toNat : Int) = ((8 * n + k : Nat) : Int) := by
    have e1 : IntKind.u64.wrap (IntKind.u64.wrap (n : Int) * 2 ^ min 3 IntKind.u64.bits) = ((n * 2 ^ 3 : Nat) : Int) := by
      rw [wrapN (n := n) (by omega), show (n : Int) * 2 ^ min 3 IntKind.u64.bits = ((n * 2 ^ 3 : Nat) : Int) by simp [IntKind.bits]]
      exact wrapN (by omega)
    rw [e1, wrapN (n := k) (by omega), BitVec.or_comm, or64 (i := 3) (by omega) (by omega)]
    congr 1; omega
  refine l_body (X := cx B) (fn := Tryz.f16) Tryz.func16 rfl rfl rfl rfl rfl 0 [] rfl rfl ?_
  refine walk ?_
  rw [show decide ((n : Int) < 1) = false from decide_eq_false (by omega)]
  refine walk ?_
  rw [show decide ((n : Int) > 536870911) = false from decide_eq_false (by omega)]
  refine walk ?_
  rw [show decide ((k : Int) < 0) = false from decide_eq_false (by omega)]
  refine walk ?_
  rw [show decide ((k : Int) > 5) = false from decide_eq_false (by omega)]
  refine walk ?_
  rw [hor]
  refine l_call [] (Put_calls B (8 * n + k) (by omega)) rfl rfl rfl rfl rfl rfl rfl (by decide) rfl rfl rfl rfl rfl ?_
  refine walk ?_
  exact l_end trivial (by decide) rfl rfl rfl rfl rfl
theorem put_calls (n k : Nat) (s : List UInt8) (h1 : 1 ≤ n) (h2 : n ≤ 536870911) (h3 : k ≤ 5) (hs : s.length ≤ most) : CallsA (cx B) 53 [iT n, iT k, sT s] [] (sT (tagV n k ++ s)) [] := by
  have hlen := putV_len (8 * n + k)
  unfold most at hs
  refine l_body (X := cx B) (fn := Tryz.f53) Tryz.func53 rfl rfl rfl rfl rfl 0 [] rfl rfl ?_
  refine walk ?_
  refine l_call [] (Tag_calls B n k h1 h2 h3) rfl rfl rfl rfl rfl rfl rfl (by decide) rfl rfl rfl rfl rfl ?_
  refine walk ?_
  rw [show (tagV n k == []) = false by cases h : tagV n k with | nil => exact absurd h (putV_ne _) | cons _ _ => rfl]
  refine walk ?_
  refine l_step (.addStr (a := tagV n k) (b := s) rfl rfl rfl (by unfold tagV; omega)) rfl rfl ?_
  refine walk ?_
  exact l_end trivial (by decide) rfl rfl rfl rfl rfl
theorem Varint_calls (n m : Nat) (h1 : 1 ≤ n) (h2 : n ≤ 536870911) (hm : m < 2 ^ 64) : CallsA (cx B) 101 [iT n, uT m] [] (sT (tagV n 0 ++ putV m)) [] := by
  have hlen := putV_len m
  refine l_body (X := cx B) (fn := Tryz.f101) Tryz.func101 rfl rfl rfl rfl rfl 0 [] rfl rfl ?_
  refine walk ?_
  refine l_call [] (Put_calls B m hm) rfl rfl rfl rfl rfl rfl rfl (by decide) rfl rfl rfl rfl rfl ?_
  refine l_call [] (put_calls B n 0 (putV m) h1 h2 (by omega) (by unfold most; omega)) rfl rfl rfl rfl rfl rfl rfl (by decide) rfl rfl rfl rfl rfl ?_
  refine walk ?_
  exact l_end trivial (by decide) rfl rfl rfl rfl rfl
theorem Bytes_calls (n : Nat) (s : List UInt8) (h1 : 1 ≤ n) (h2 : n ≤ 536870911) (hs : s.length < big) : CallsA (cx B) 119 [iT n, sT s] [] (sT (tagV n 2 ++ (putV s.length ++ s))) [] := by
  have hlen := putV_len s.length
  unfold big at hs
  refine l_body (X := cx B) (fn := Tryz.f119) Tryz.func119 rfl rfl rfl rfl rfl 0 [] rfl rfl ?_
  refine walk ?_
  rw [wrapN (n := s.length) (by omega)]
  refine l_call [] (Put_calls B s.length (by omega)) rfl rfl rfl rfl rfl rfl rfl (by decide) rfl rfl rfl rfl rfl ?_
  refine walk ?_
  refine l_step (.addStr (a := putV s.length) (b := s) rfl rfl rfl (by omega)) rfl rfl ?_
  refine l_call [] (put_calls B n 2 (putV s.length ++ s) h1 h2 (by omega) (by simp [most]; omega)) rfl rfl rfl rfl rfl rfl rfl (by decide) rfl rfl rfl rfl rfl ?_
  refine walk ?_
  exact l_end trivial (by decide) rfl rfl rfl rfl rfl
theorem tagV_len (n k : Nat) : (tagV n k).length ≤ 10 := putV_len _
theorem Few_calls (a : T) (l : List UInt8) (n m : Nat) (ha : adOk a) (h1 : 1 ≤ n) (h2 : n ≤ 536870911) (hm : m < 2 ^ 64) (hl : l.length < big) : CallsA (cx B) 76 [.ptr 0 0, iT n, uT m] [.mu [a, bT l]] (.tup []) [.mu [.me, bT (l ++ (tagV n 0 ++ putV m))]] := by
  have hlen := putV_len m
  have hlen2 := tagV_len n 0
  unfold big at hl
  have h3 := Raw_calls B a l (tagV n 0 ++ putV m) ha (by simp [most]; omega)
  generalize l ++ (tagV n 0 ++ putV m) = y at *
  rcases ha with rfl | rfl | rfl <;> (rcases l with _ | ⟨c, l⟩ <;> (rcases y with _ | ⟨c', y⟩ <;> (
  refine l_body (X := cx B) (fn := Tryz.f76) Tryz.func76 rfl rfl rfl rfl rfl 1 [] rfl rfl ?_
  refine walk ?_
  refine l_call [] (Varint_calls B n m h1 h2 hm) rfl rfl rfl rfl rfl rfl rfl (by decide) rfl rfl rfl rfl rfl ?_
  refine l_call [0] (h3) rfl rfl rfl rfl rfl rfl rfl (by decide) rfl rfl rfl rfl rfl ?_
  refine walk ?_
  exact l_end trivial (by decide) rfl rfl rfl rfl rfl)))
theorem Part_calls (a : T) (l : List UInt8) (n : Nat) (s : List UInt8) (ha : adOk a) (h1 : 1 ≤ n) (h2 : n ≤ 536870911) (hl : l.length + s.length < big) : CallsA (cx B) 102 [.ptr 0 0, iT n, sT s] [.mu [a, bT l]] (.tup []) [.mu [.me, bT (l ++ (tagV n 2 ++ (putV s.length ++ s)))]] := by
  have hlen := putV_len s.length
  have hlen2 := tagV_len n 2
  have h4 := Bytes_calls B n s h1 h2 (by omega)
  unfold big at hl
  have h3 := Raw_calls B a l (tagV n 2 ++ (putV s.length ++ s)) ha (by simp [most]; omega)
  generalize l ++ (tagV n 2 ++ (putV s.length ++ s)) = y at *
  rcases ha with rfl | rfl | rfl <;> (rcases l with _ | ⟨c, l⟩ <;> (rcases y with _ | ⟨c', y⟩ <;> (
  refine l_body (X := cx B) (fn := Tryz.f102) Tryz.func102 rfl rfl rfl rfl rfl 1 [] rfl rfl ?_
  refine walk ?_
  refine l_call [] (h4) rfl rfl rfl rfl rfl rfl rfl (by decide) rfl rfl rfl rfl rfl ?_
  refine l_call [0] (h3) rfl rfl rfl rfl rfl rfl rfl (by decide) rfl rfl rfl rfl rfl ?_
  refine walk ?_
  exact l_end trivial (by decide) rfl rfl rfl rfl rfl)))
end Go.Proofs.YtfbckigcelmopaaGreatDoor
