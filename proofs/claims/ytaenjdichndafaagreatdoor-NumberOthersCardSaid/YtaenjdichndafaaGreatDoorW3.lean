/- The tables of values, of attributes, of a message of one list. -/
import Derived.Test.YtaenjdichndafaaGreatDoorW2
set_option linter.unusedSimpArgs false
set_option linter.unusedVariables false
set_option maxRecDepth 100000
namespace Go.Proofs.YtaenjdichndafaaGreatDoor
open Go Go.Abs
variable (B : Fr)
theorem ibeq (k c : Nat) : ((k : Int) == (c : Int)) = (k == c) := by
  by_cases h : k = c
  · subst h; simp
  · rw [show (k == c) = false by simpa using h]; simp; omega
def tbV (n k : Nat) : Bool := bif [1, 5, 6, 7].contains n then k == 2 else bif [2, 3].contains n then k == 0 else bif [4].contains n then k == 1 else false
theorem tbV_calls (n k : Nat) : CallsA (cx B) 112 [iT n, iT k] [] (.d (.bool (tbV n k))) [] := by
  refine l_body (X := cx B) (fn := Tryz.f112) Tryz.func112 rfl rfl rfl rfl rfl 0 [] rfl rfl ?_
  refine walk ?_
  cases h0 : ((n : Int) == 1) with
  | true =>
    have e : n = 1 := by have := eq_of_beq h0; omega
    subst e
    rw [show tbV 1 k = ((k : Int) == 2) from (ibeq k 2).symm]
    refine walk ?_
    exact l_end trivial (by decide) rfl rfl rfl rfl rfl
  | false =>
  have eh0 : n ≠ 1 := by have := ne_of_beq_false h0; omega
  refine walk ?_
  cases h1 : ((n : Int) == 5) with
  | true =>
    have e : n = 5 := by have := eq_of_beq h1; omega
    subst e
    rw [show tbV 5 k = ((k : Int) == 2) from (ibeq k 2).symm]
    refine walk ?_
    exact l_end trivial (by decide) rfl rfl rfl rfl rfl
  | false =>
  have eh1 : n ≠ 5 := by have := ne_of_beq_false h1; omega
  refine walk ?_
  cases h2 : ((n : Int) == 6) with
  | true =>
    have e : n = 6 := by have := eq_of_beq h2; omega
    subst e
    rw [show tbV 6 k = ((k : Int) == 2) from (ibeq k 2).symm]
    refine walk ?_
    exact l_end trivial (by decide) rfl rfl rfl rfl rfl
  | false =>
  have eh2 : n ≠ 6 := by have := ne_of_beq_false h2; omega
  refine walk ?_
  cases h3 : ((n : Int) == 7) with
  | true =>
    have e : n = 7 := by have := eq_of_beq h3; omega
    subst e
    rw [show tbV 7 k = ((k : Int) == 2) from (ibeq k 2).symm]
    refine walk ?_
    exact l_end trivial (by decide) rfl rfl rfl rfl rfl
  | false =>
  have eh3 : n ≠ 7 := by have := ne_of_beq_false h3; omega
  refine walk ?_
  cases h4 : ((n : Int) == 2) with
  | true =>
    have e : n = 2 := by have := eq_of_beq h4; omega
    subst e
    rw [show tbV 2 k = ((k : Int) == 0) from (ibeq k 0).symm]
    refine walk ?_
    exact l_end trivial (by decide) rfl rfl rfl rfl rfl
  | false =>
  have eh4 : n ≠ 2 := by have := ne_of_beq_false h4; omega
  refine walk ?_
  cases h5 : ((n : Int) == 3) with
  | true =>
    have e : n = 3 := by have := eq_of_beq h5; omega
    subst e
    rw [show tbV 3 k = ((k : Int) == 0) from (ibeq k 0).symm]
    refine walk ?_
    exact l_end trivial (by decide) rfl rfl rfl rfl rfl
  | false =>
  have eh5 : n ≠ 3 := by have := ne_of_beq_false h5; omega
  refine walk ?_
  cases h6 : ((n : Int) == 4) with
  | true =>
    have e : n = 4 := by have := eq_of_beq h6; omega
    subst e
    rw [show tbV 4 k = ((k : Int) == 1) from (ibeq k 1).symm]
    refine walk ?_
    exact l_end trivial (by decide) rfl rfl rfl rfl rfl
  | false =>
  have eh6 : n ≠ 4 := by have := ne_of_beq_false h6; omega
  refine walk ?_
  rw [show tbV n k = false from by unfold tbV; simp [eh0, eh1, eh2, eh3, eh4, eh5, eh6]]
  exact l_end trivial (by decide) rfl rfl rfl rfl rfl

def tbL (n k : Nat) : Bool := n == 1 && k == 2
def tbK (n k : Nat) : Bool := (n == 1 || n == 2) && k == 2
theorem tbL_calls (n k : Nat) : CallsA (cx B) 140 [iT n, iT k] [] (.d (.bool (tbL n k))) [] := by
  unfold tbL
  refine l_body (X := cx B) (fn := Tryz.f140) Tryz.func140 rfl rfl rfl rfl rfl 0 [] rfl rfl ?_
  refine walk ?_
  rw [show ((n : Int) == 1) = (n == 1) from ibeq n 1]
  cases h : (n == 1) with
  | false =>
    refine walk ?_
    exact l_end trivial (by decide) rfl rfl rfl rfl rfl
  | true =>
    refine walk ?_
    rw [show ((k : Int) == 2) = (k == 2) from ibeq k 2]
    exact l_end trivial (by decide) rfl rfl rfl rfl rfl
theorem tbK_calls (n k : Nat) : CallsA (cx B) 81 [iT n, iT k] [] (.d (.bool (tbK n k))) [] := by
  unfold tbK
  refine l_body (X := cx B) (fn := Tryz.f81) Tryz.func81 rfl rfl rfl rfl rfl 0 [] rfl rfl ?_
  refine walk ?_
  rw [show ((n : Int) == 1) = (n == 1) from ibeq n 1]
  cases h : (n == 1) with
  | true =>
    refine walk ?_
    rw [show ((k : Int) == 2) = (k == 2) from ibeq k 2]
    exact l_end trivial (by decide) rfl rfl rfl rfl rfl
  | false =>
    refine walk ?_
    rw [show ((n : Int) == 2) = (n == 2) from ibeq n 2]
    cases h2 : (n == 2) with
    | false =>
      refine walk ?_
      exact l_end trivial (by decide) rfl rfl rfl rfl rfl
    | true =>
      refine walk ?_
      rw [show ((k : Int) == 2) = (k == 2) from ibeq k 2]
      exact l_end trivial (by decide) rfl rfl rfl rfl rfl
end Go.Proofs.YtaenjdichndafaaGreatDoor
