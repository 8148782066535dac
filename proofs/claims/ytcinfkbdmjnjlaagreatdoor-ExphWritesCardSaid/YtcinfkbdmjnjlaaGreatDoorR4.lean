/- The reference: buckets read. -/
import Derived.Test.YtcinfkbdmjnjlaaGreatDoorRR
set_option linter.unusedSimpArgs false
set_option linter.unusedVariables false
set_option maxRecDepth 100000
namespace Go.Proofs.YtcinfkbdmjnjlaaGreatDoor
open Go Go.Abs
variable (B : Fr)
theorem buckets_calls : CallsA (cx B) 117 [] [] (.d (.sl false ([8, 16, 18].map iD))) [] := by
  refine l_body (X := cx B) (fn := Tryz.f117) Tryz.func117 rfl rfl rfl rfl rfl 0 [] rfl rfl ?_
  refine walk ?_
  (try refine l_open rfl ?_)
  refine l_step (.buildSlice (es := [8, 16, 18].map iD) rfl rfl rfl rfl rfl rfl (by intro x hx; simp [iD] at hx; rcases hx with rfl | rfl | rfl <;> rfl) (by decide) (by decide) (by decide)) rfl rfl ?_
  refine walk ?_
  exact l_end trivial (by decide) rfl rfl rfl rfl rfl
theorem tk_B (n k : Nat) (hk : k < 8) : tkB [8, 16, 18] n k = tbB n k := by
  unfold tkB tbB
  rw [Bool.eq_iff_iff]
  simp
  omega
end Go.Proofs.YtcinfkbdmjnjlaaGreatDoor
