/- The reference: what may lack, and packed numbers. -/
import Derived.Test.YtcinfkbdmjnjlaaGreatDoorRW
import Derived.Test.YtcinfkbdmjnjlaaGreatDoorWF
set_option linter.unusedSimpArgs false
set_option linter.unusedVariables false
set_option maxRecDepth 100000
namespace Go.Proofs.YtcinfkbdmjnjlaaGreatDoor
open Go Go.Abs
variable (B : Fr)
theorem rMayOpt_calls (h : Bool) (n : Nat) : CallsA (cx B) 142 [.d (.agg [.bool h, .int .u64 n])] [] (.d (.bool (mayOpt h n))) [] := by
  unfold mayOpt
  cases h with
  | true =>
    refine l_body (X := cx B) (fn := Tryz.f142) Tryz.func142 rfl rfl rfl rfl rfl 0 [] rfl rfl ?_
    refine walk ?_
    exact l_end trivial (by decide) rfl rfl rfl rfl rfl
  | false =>
    rw [show (false || n == 0) = ((n : Int) == 0) from (ibeq n 0).symm]
    refine l_body (X := cx B) (fn := Tryz.f142) Tryz.func142 rfl rfl rfl rfl rfl 0 [] rfl rfl ?_
    refine walk ?_
    exact l_end trivial (by decide) rfl rfl rfl rfl rfl
theorem opts_calls (a b c : Bool) (k l m : Nat) : CallsA (cx B) 79 [.d (.agg [.bool a, .int .u64 k]), .d (.agg [.bool b, .int .u64 l]), .d (.agg [.bool c, .int .u64 m])] [] (.d (.bool (mayOpt a k && mayOpt b l && mayOpt c m))) [] := by
  have c1 := rMayOpt_calls B a k
  have c2 := rMayOpt_calls B b l
  have c3 := rMayOpt_calls B c m
  refine l_body (X := cx B) (fn := Tryz.f79) Tryz.func79 rfl rfl rfl rfl rfl 0 [] rfl rfl ?_
  refine walk ?_
  refine l_call [] (c1) rfl rfl rfl rfl rfl rfl rfl (by decide) rfl rfl rfl rfl rfl ?_
  refine walk ?_
  cases e1 : mayOpt a k with
  | false =>
    refine walk ?_
    exact l_end trivial (by decide) rfl rfl rfl rfl rfl
  | true =>
    refine walk ?_
    refine l_callG [] (c2) rfl rfl rfl rfl rfl rfl rfl rfl rfl (by decide) rfl rfl rfl rfl rfl ?_
    refine walk ?_
    cases e2 : mayOpt b l with
    | false =>
      refine walk ?_
      exact l_end trivial (by decide) rfl rfl rfl rfl rfl
    | true =>
      refine walk ?_
      refine l_callG [] (c3) rfl rfl rfl rfl rfl rfl rfl rfl rfl (by decide) rfl rfl rfl rfl rfl ?_
      refine walk ?_
      exact l_end trivial (by decide) rfl rfl rfl rfl rfl
theorem PutOpt_calls (n : Nat) (h : Bool) (v : Nat) (h1 : 1 ≤ n) (h2 : n ≤ 536870911) (hv : v < 2 ^ 64) : CallsA (cx B) 87 [iT n, .d (.agg [.bool h, .int .u64 v])] [] (sT (opV n h v)) [] := by
  cases h with
  | false =>
    refine l_body (X := cx B) (fn := Tryz.f87) Tryz.func87 rfl rfl rfl rfl rfl 0 [] rfl rfl ?_
    refine walk ?_
    exact l_end trivial (by decide) rfl rfl rfl rfl rfl
  | true =>
    have c : CallsA (cx B) 147 [iT n, uT v] [] (sT (opV n true v)) [] := rFixed_calls B n v h1 h2 hv
    refine l_body (X := cx B) (fn := Tryz.f87) Tryz.func87 rfl rfl rfl rfl rfl 0 [] rfl rfl ?_
    refine walk ?_
    refine l_call [] (c) rfl rfl rfl rfl rfl rfl rfl (by decide) rfl rfl rfl rfl rfl ?_
    refine walk ?_
    exact l_end trivial (by decide) rfl rfl rfl rfl rfl
end Go.Proofs.YtcinfkbdmjnjlaaGreatDoor
