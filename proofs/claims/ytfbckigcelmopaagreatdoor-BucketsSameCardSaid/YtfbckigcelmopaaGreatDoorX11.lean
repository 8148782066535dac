/- msg.Writer: raw bytes, what was written. -/
import Derived.Test.YtfbckigcelmopaaGreatDoorX10
set_option linter.unusedSimpArgs false
set_option linter.unusedVariables false
set_option maxRecDepth 100000
namespace Go.Proofs.YtfbckigcelmopaaGreatDoor
open Go Go.Abs
variable (B : Fr)
theorem Raw_calls (a : T) (l s : List UInt8) (ha : adOk a) (hm : l.length + s.length ≤ most) : CallsA (cx B) 46 [.ptr 0 0, sT s] [.mu [a, bT l]] (.tup []) [.mu [.me, bT (l ++ s)]] := by
  have h1 := WriteString_calls B a l s ha hm
  rcases l with _ | ⟨c, l⟩
  · rcases s with _ | ⟨c, s⟩ <;>
    (rcases ha with rfl | rfl | rfl <;> (
    refine l_body (X := cx B) (fn := Tryz.f46) Tryz.func46 rfl rfl rfl rfl rfl 1 [] rfl rfl ?_
    refine walk ?_
    refine l_call [0] (h1) rfl rfl rfl rfl rfl rfl rfl (by decide) rfl rfl rfl rfl rfl ?_
    refine walk ?_
    exact l_end trivial (by decide) rfl rfl rfl rfl rfl))
  · rcases ha with rfl | rfl | rfl <;> (
    refine l_body (X := cx B) (fn := Tryz.f46) Tryz.func46 rfl rfl rfl rfl rfl 1 [] rfl rfl ?_
    refine walk ?_
    refine l_call [0] (h1) rfl rfl rfl rfl rfl rfl rfl (by decide) rfl rfl rfl rfl rfl ?_
    refine walk ?_
    exact l_end trivial (by decide) rfl rfl rfl rfl rfl)
theorem WString_calls (a : T) (l : List UInt8) (ha : adOk a) (hm : l.length ≤ most) : CallsA (cx B) 47 [.ptr 0 0] [.mu [a, bT l]] (sT l) [.mu [a, .undef]] := by
  have h1 := String_calls B a l ha hm
  rcases l with _ | ⟨c, l⟩ <;>
    (rcases ha with rfl | rfl | rfl <;> (
    refine l_body (X := cx B) (fn := Tryz.f47) Tryz.func47 rfl rfl rfl rfl rfl 1 [] rfl rfl ?_
    refine walk ?_
    refine l_call [0] (h1) rfl rfl rfl rfl rfl rfl rfl (by decide) rfl rfl rfl rfl rfl ?_
    refine walk ?_
    exact l_end trivial (by decide) rfl rfl rfl rfl rfl))
end Go.Proofs.YtfbckigcelmopaaGreatDoor
