/- msg.Reader: an error noted; numbers unfolded. -/
import Derived.Test.YtfbckigcelmopaaGreatDoorX19
import Derived.Test.YtfbckigcelmopaaGreatDoorXF
set_option linter.unusedSimpArgs false
set_option linter.unusedVariables false
set_option maxRecDepth 100000
namespace Go.Proofs.YtfbckigcelmopaaGreatDoor
open Go Go.Abs
variable (B : Fr)
/-- What blame.Place and blame.Code need of the program's variables. -/
def BOk (B : Fr) : Prop := B 0 0 = some (rty 27)
def clampE (n at' : Int) : Int :=
  let m := if (0 : Int) > at' then 0 else at'
  if n < m then n else m
/-- The first error within a field counts. -/
def failE (n : Int) (num : Nat) : Option Er → Option Er → Option Er
  | none, some x => some (.loc (clampE n (placeOf x).1) (.fld num x))
  | e, _ => e
theorem msgfails_calls (hB : BOk B) (e : Option Er) (u : List UInt8) (d n : Int) (l : List Fld) (num : Nat) (er : Option Er) : CallsA (cx B) 62 [.ptr 0 0, iT num, .d (eD er)] [rO e u d n l] (.tup []) [rO (failE n num e er) u d n l] := by
  cases e with
  | some e =>
    refine l_body (X := cx B) (fn := Tryz.f62) Tryz.func62 rfl rfl rfl rfl rfl 1 [] rfl rfl ?_
    cases e <;> (
    refine walk ?_
    exact l_end trivial (by decide) rfl rfl rfl rfl rfl)
  | none =>
    cases er with
    | none =>
      refine l_body (X := cx B) (fn := Tryz.f62) Tryz.func62 rfl rfl rfl rfl rfl 1 [] rfl rfl ?_
      refine walk ?_
      exact l_end trivial (by decide) rfl rfl rfl rfl rfl
    | some er =>
      have h1 := Place_calls B hB (some er)
      have h2 := In_calls B num (some er)
      have h3 := At_calls B (clampE n (placeOf er).1) (some (.fld num er))
      dsimp only at h1
      refine l_body (X := cx B) (fn := Tryz.f62) Tryz.func62 rfl rfl rfl rfl rfl 1 [] rfl rfl ?_
      cases er <;> (
      refine walk ?_
      refine l_call [] (h1) rfl rfl rfl rfl rfl rfl rfl (by decide) rfl rfl rfl rfl rfl ?_
      refine walk ?_
      refine x_call [] (h2) rfl rfl rfl rfl rfl rfl (by decide) rfl rfl rfl rfl rfl rfl ?_
      refine walk ?_
      refine x_call [] (h3) rfl rfl rfl rfl rfl rfl (by decide) rfl rfl rfl rfl rfl rfl ?_
      refine walk ?_
      exact l_end trivial (by decide) rfl rfl rfl rfl rfl)
end Go.Proofs.YtfbckigcelmopaaGreatDoor
