/- Number: the reference reads them. -/
import Derived.Test.YthogjpjcidfoaaaGreatDoorER
import Derived.Test.YthogjpjcidfoaaaGreatDoorNS
import Derived.Test.YthogjpjcidfoaaaGreatDoorNL
set_option linter.unusedSimpArgs false
set_option linter.unusedVariables false
set_option maxRecDepth 100000
namespace Go.Proofs.YthogjpjcidfoaaaGreatDoor
open Go Go.Abs
variable (B : Fr)
theorem tabNb_calls : CallsA (cx B) 40 [] [] (.d (.sl false ([17, 25, 33, 42, 49, 58, 64].map iD))) [] := by
  refine l_body (X := cx B) (fn := Tryz.f40) Tryz.func40 rfl rfl rfl rfl rfl 0 [] rfl rfl ?_
  refine walk ?_
  (try refine l_open rfl ?_)
  refine l_step (.buildSlice (es := [17, 25, 33, 42, 49, 58, 64].map iD) rfl rfl rfl rfl rfl rfl (by intro x hx; simp [iD] at hx; rcases hx with rfl | rfl | rfl | rfl | rfl | rfl | rfl <;> rfl) (by decide) (by decide) (by decide)) rfl rfl ?_
  refine walk ?_
  exact l_end trivial (by decide) rfl rfl rfl rfl rfl
theorem tbN_big {n k : Nat} (hn : 9 ≤ n) : tbN n k = false := by
  unfold tbN
  simp
  (repeat' split) <;> omega
theorem tk_Nb (n k : Nat) (hk : k < 8) : tkB [17, 25, 33, 42, 49, 58, 64] n k = tbN n k := by
  by_cases hn : n < 9
  · exact (by decide : ∀ n < 9, ∀ k < 8, tkB [17, 25, 33, 42, 49, 58, 64] n k = tbN n k) n hn k hk
  · rw [show tkB [17, 25, 33, 42, 49, 58, 64] n k = false by unfold tkB; simp; omega, tbN_big (by omega)]
end Go.Proofs.YthogjpjcidfoaaaGreatDoor
