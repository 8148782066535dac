/- The errors of the program, and what lays a place or a field about one. -/
import Derived.Test.YtfbckigcelmopaaGreatDoorT
set_option linter.unusedSimpArgs false
set_option linter.unusedVariables false
set_option maxRecDepth 100000
namespace Go.Proofs.YtfbckigcelmopaaGreatDoor
open Go Go.Abs
inductive Er where
  | code (n : Int) | loc (n : Int) (e : Er) | fld (n : Int) (e : Er)
def Er.d : Er → D
  | .code n => .iface 37 (.int .i64 n)
  | .loc n e => .iface 126 (.box [.int .i64 n, e.d])
  | .fld n e => .iface 197 (.box [.int .i64 n, e.d])
def eD : Option Er → D
  | none => .nili
  | some e => e.d
def iT (n : Int) : T := .d (.int .i64 n)
def uT (n : Nat) : T := .d (.int .u64 n)
def sT (s : List UInt8) : T := .d (.str s)
variable (B : Fr)

theorem At_calls (n : Int) (e : Option Er) : CallsA (cx B) 92 [.d (.int .i64 n), .d (eD e)] [] (.d (eD (e.map (.loc n)))) [] := by
  refine l_body (X := cx B) (fn := Tryz.f92) Tryz.func92 rfl rfl rfl rfl rfl 0 [] rfl rfl ?_
  cases e with
  | none =>
    refine walk ?_
    exact l_end trivial (by decide) rfl rfl rfl rfl rfl
  | some e =>
    cases e <;>
    (refine walk ?_) <;>
    exact l_end trivial (by decide) rfl rfl rfl rfl rfl
theorem In_calls (n : Int) (e : Option Er) : CallsA (cx B) 93 [.d (.int .i64 n), .d (eD e)] [] (.d (eD (e.map (.fld n)))) [] := by
  refine l_body (X := cx B) (fn := Tryz.f93) Tryz.func93 rfl rfl rfl rfl rfl 0 [] rfl rfl ?_
  cases e with
  | none =>
    refine walk ?_
    exact l_end trivial (by decide) rfl rfl rfl rfl rfl
  | some e =>
    cases e <;>
    (refine walk ?_) <;>
    exact l_end trivial (by decide) rfl rfl rfl rfl rfl
end Go.Proofs.YtfbckigcelmopaaGreatDoor
