/- The writer: what may lack; packed numbers. -/
import Derived.Test.YtfbckigcelmopaaGreatDoorX13
set_option linter.unusedSimpArgs false
set_option linter.unusedVariables false
set_option maxRecDepth 100000
namespace Go.Proofs.YtfbckigcelmopaaGreatDoor
open Go Go.Abs
variable (B : Fr)
theorem Var_zero (a : T) (l : List UInt8) (n : Nat) (ha : adOk a) : CallsA (cx B) 43 [.ptr 0 0, iT n, uT 0] [.mu [a, bT l]] (.tup []) [.mu [a, bT l]] := by
  rcases ha with rfl | rfl | rfl <;> (rcases l with _ | ⟨c, l⟩ <;> (
  refine l_body (X := cx B) (fn := Tryz.f43) Tryz.func43 rfl rfl rfl rfl rfl 1 [] rfl rfl ?_
  refine walk ?_
  exact l_end trivial (by decide) rfl rfl rfl rfl rfl))
theorem Var_calls (a : T) (l : List UInt8) (n m : Nat) (ha : adOk a) (h1 : 1 ≤ n) (h2 : n ≤ 536870911) (h0 : m ≠ 0) (hm : m < 2 ^ 64) (hl : l.length < big) : CallsA (cx B) 43 [.ptr 0 0, iT n, uT m] [.mu [a, bT l]] (.tup []) [.mu [.me, bT (l ++ (tagV n 0 ++ putV m))]] := by
  have h3 := Few_calls B a l n m ha h1 h2 hm hl
  generalize l ++ (tagV n 0 ++ putV m) = y at *
  rcases ha with rfl | rfl | rfl <;> (rcases l with _ | ⟨c, l⟩ <;> (rcases y with _ | ⟨c', y⟩ <;> (
  refine l_body (X := cx B) (fn := Tryz.f43) Tryz.func43 rfl rfl rfl rfl rfl 1 [] rfl rfl ?_
  refine walk ?_
  rw [show decide ((m : Int) > 0) = true from decide_eq_true (by omega)]
  refine walk ?_
  refine l_call [0] (h3) rfl rfl rfl rfl rfl rfl rfl (by decide) rfl rfl rfl rfl rfl ?_
  refine walk ?_
  exact l_end trivial (by decide) rfl rfl rfl rfl rfl)))
theorem Text_nil (a : T) (l : List UInt8) (n : Nat) (ha : adOk a) : CallsA (cx B) 77 [.ptr 0 0, iT n, sT []] [.mu [a, bT l]] (.tup []) [.mu [a, bT l]] := by
  rcases ha with rfl | rfl | rfl <;> (rcases l with _ | ⟨c, l⟩ <;> (
  refine l_body (X := cx B) (fn := Tryz.f77) Tryz.func77 rfl rfl rfl rfl rfl 1 [] rfl rfl ?_
  refine walk ?_
  exact l_end trivial (by decide) rfl rfl rfl rfl rfl))
theorem Text_calls (a : T) (l : List UInt8) (n : Nat) (s : List UInt8) (ha : adOk a) (h1 : 1 ≤ n) (h2 : n ≤ 536870911) (h0 : s ≠ []) (hl : l.length + s.length < big) : CallsA (cx B) 77 [.ptr 0 0, iT n, sT s] [.mu [a, bT l]] (.tup []) [.mu [.me, bT (l ++ (tagV n 2 ++ (putV s.length ++ s)))]] := by
  have h3 := Part_calls B a l n s ha h1 h2 hl
  generalize l ++ (tagV n 2 ++ (putV s.length ++ s)) = y at *
  have hs : (s != []) = true := by cases s with | nil => exact absurd rfl h0 | cons _ _ => rfl
  rcases ha with rfl | rfl | rfl <;> (rcases l with _ | ⟨c, l⟩ <;> (rcases y with _ | ⟨c', y⟩ <;> (
  refine l_body (X := cx B) (fn := Tryz.f77) Tryz.func77 rfl rfl rfl rfl rfl 1 [] rfl rfl ?_
  refine walk ?_
  rw [show (!(s == [])) = true from hs]
  refine walk ?_
  refine l_call [0] (h3) rfl rfl rfl rfl rfl rfl rfl (by decide) rfl rfl rfl rfl rfl ?_
  refine walk ?_
  exact l_end trivial (by decide) rfl rfl rfl rfl rfl)))
end Go.Proofs.YtfbckigcelmopaaGreatDoor
