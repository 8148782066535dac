/- Exemplar: the reference reads them. -/
import Derived.Test.YthogjpjcidfoaaaGreatDoorRL
import Derived.Test.YthogjpjcidfoaaaGreatDoorES
import Derived.Test.YthogjpjcidfoaaaGreatDoorEL
set_option linter.unusedSimpArgs false
set_option linter.unusedVariables false
set_option maxRecDepth 100000
namespace Go.Proofs.YthogjpjcidfoaaaGreatDoor
open Go Go.Abs
variable (B : Fr)
theorem tabEm_calls : CallsA (cx B) 134 [] [] (.d (.sl false ([17, 25, 34, 42, 49, 58].map iD))) [] := by
  refine l_body (X := cx B) (fn := Tryz.f134) Tryz.func134 rfl rfl rfl rfl rfl 0 [] rfl rfl ?_
  refine walk ?_
  (try refine l_open rfl ?_)
  refine l_step (.buildSlice (es := [17, 25, 34, 42, 49, 58].map iD) rfl rfl rfl rfl rfl rfl (by intro x hx; simp [iD] at hx; rcases hx with rfl | rfl | rfl | rfl | rfl | rfl <;> rfl) (by decide) (by decide) (by decide)) rfl rfl ?_
  refine walk ?_
  exact l_end trivial (by decide) rfl rfl rfl rfl rfl
theorem tbE_big {n k : Nat} (hn : 8 ≤ n) : tbE n k = false := by
  unfold tbE
  simp
  (repeat' split) <;> omega
theorem tk_Em (n k : Nat) (hk : k < 8) : tkB [17, 25, 34, 42, 49, 58] n k = tbE n k := by
  by_cases hn : n < 8
  · exact (by decide : ∀ n < 8, ∀ k < 8, tkB [17, 25, 34, 42, 49, 58] n k = tbE n k) n hn k hk
  · rw [show tkB [17, 25, 34, 42, 49, 58] n k = false by unfold tkB; simp; omega, tbE_big (by omega)]
end Go.Proofs.YthogjpjcidfoaaaGreatDoor
