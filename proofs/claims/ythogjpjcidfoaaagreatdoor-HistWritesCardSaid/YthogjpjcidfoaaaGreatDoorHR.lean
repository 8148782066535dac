/- Hist: the reference reads them. -/
import Derived.Test.YthogjpjcidfoaaaGreatDoorER
import Derived.Test.YthogjpjcidfoaaaGreatDoorHS
import Derived.Test.YthogjpjcidfoaaaGreatDoorHL
set_option linter.unusedSimpArgs false
set_option linter.unusedVariables false
set_option maxRecDepth 100000
namespace Go.Proofs.YthogjpjcidfoaaaGreatDoor
open Go Go.Abs
variable (B : Fr)
theorem tabHi_calls : CallsA (cx B) 76 [] [] (.d (.sl false ([17, 25, 33, 41, 49, 50, 57, 58, 66, 74, 80, 89, 97].map iD))) [] := by
  refine l_body (X := cx B) (fn := Tryz.f76) Tryz.func76 rfl rfl rfl rfl rfl 0 [] rfl rfl ?_
  refine walk ?_
  (try refine l_open rfl ?_)
  refine l_step (.buildSlice (es := [17, 25, 33, 41, 49, 50, 57, 58, 66, 74, 80, 89, 97].map iD) rfl rfl rfl rfl rfl rfl (by intro x hx; simp [iD] at hx; rcases hx with rfl | rfl | rfl | rfl | rfl | rfl | rfl | rfl | rfl | rfl | rfl | rfl | rfl <;> rfl) (by decide) (by decide) (by decide)) rfl rfl ?_
  refine walk ?_
  exact l_end trivial (by decide) rfl rfl rfl rfl rfl
theorem tbH_big {n k : Nat} (hn : 13 ≤ n) : tbH n k = false := by
  unfold tbH
  simp
  (repeat' split) <;> omega
theorem tk_Hi (n k : Nat) (hk : k < 8) : tkB [17, 25, 33, 41, 49, 50, 57, 58, 66, 74, 80, 89, 97] n k = tbH n k := by
  by_cases hn : n < 13
  · exact (by decide : ∀ n < 13, ∀ k < 8, tkB [17, 25, 33, 41, 49, 50, 57, 58, 66, 74, 80, 89, 97] n k = tbH n k) n hn k hk
  · rw [show tkB [17, 25, 33, 41, 49, 50, 57, 58, 66, 74, 80, 89, 97] n k = false by unfold tkB; simp; omega, tbH_big (by omega)]
end Go.Proofs.YthogjpjcidfoaaaGreatDoor
