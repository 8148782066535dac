/- Tables; numbers unfolded. -/
import Derived.Test.YtfbckigcelmopaaGreatDoorX7
set_option linter.unusedSimpArgs false
set_option linter.unusedVariables false
set_option maxRecDepth 100000
namespace Go.Proofs.YtfbckigcelmopaaGreatDoor
open Go Go.Abs
variable (B : Fr)
/-- The table of buckets. -/
def tbB (n k : Nat) : Bool := decide (n = 2 ∧ k = 2 ∨ (n = 1 ∨ n = 2) ∧ k = 0)
theorem takesBuckets_calls (n k : Nat) : CallsA (cx B) 28 [iT n, iT k] [] (.d (.bool (tbB n k))) [] := by
  refine l_body (X := cx B) (fn := Tryz.f28) Tryz.func28 rfl rfl rfl rfl rfl 0 [] rfl rfl ?_
  refine walk ?_
  cases h2 : ((n : Int) == 2) with
  | true =>
    have e2 : n = 2 := by have := eq_of_beq h2; omega
    subst e2
    refine walk ?_
    refine r_cond rfl (fun h => ?_) (fun h => ?_)
    · have ek : k = 2 := by have := eq_of_beq h; omega
      subst ek
      refine walk ?_
      exact l_end trivial (by decide) rfl rfl rfl rfl rfl
    · have ek : k ≠ 2 := by have := ne_of_beq_false h; omega
      refine walk ?_
      rw [show tbB 2 k = ((k : Int) == 0) by unfold tbB; by_cases hk : k = 0 <;> simp [hk, ek]]
      exact l_end trivial (by decide) rfl rfl rfl rfl rfl
  | false =>
    have e2 : n ≠ 2 := by have := ne_of_beq_false h2; omega
    refine walk ?_
    cases h1 : ((n : Int) == 1) with
    | true =>
      have e1 : n = 1 := by have := eq_of_beq h1; omega
      subst e1
      refine walk ?_
      rw [show tbB 1 k = ((k : Int) == 0) by unfold tbB; by_cases hk : k = 0 <;> simp [hk]]
      exact l_end trivial (by decide) rfl rfl rfl rfl rfl
    | false =>
      have e1 : n ≠ 1 := by have := ne_of_beq_false h1; omega
      refine walk ?_
      rw [show tbB n k = false by unfold tbB; simp [e1, e2]]
      exact l_end trivial (by decide) rfl rfl rfl rfl rfl
end Go.Proofs.YtfbckigcelmopaaGreatDoor
