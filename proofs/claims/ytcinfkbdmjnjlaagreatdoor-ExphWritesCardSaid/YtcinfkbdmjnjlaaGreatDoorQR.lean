/- Exp: the reference reads them. -/
import Derived.Test.YtcinfkbdmjnjlaaGreatDoorER
import Derived.Test.YtcinfkbdmjnjlaaGreatDoorR4
import Derived.Test.YtcinfkbdmjnjlaaGreatDoorSD
import Derived.Test.YtcinfkbdmjnjlaaGreatDoorQS
import Derived.Test.YtcinfkbdmjnjlaaGreatDoorQL
set_option linter.unusedSimpArgs false
set_option linter.unusedVariables false
set_option maxRecDepth 100000
namespace Go.Proofs.YtcinfkbdmjnjlaaGreatDoor
open Go Go.Abs
variable (B : Fr)
theorem tabEh_calls : CallsA (cx B) 40 [] [] (.d (.sl false ([10, 17, 25, 33, 41, 48, 57, 66, 74, 80, 90, 97, 105, 113].map iD))) [] := by
  refine l_body (X := cx B) (fn := Tryz.f40) Tryz.func40 rfl rfl rfl rfl rfl 0 [] rfl rfl ?_
  refine walk ?_
  (try refine l_open rfl ?_)
  refine l_step (.buildSlice (es := [10, 17, 25, 33, 41, 48, 57, 66, 74, 80, 90, 97, 105, 113].map iD) rfl rfl rfl rfl rfl rfl (by intro x hx; simp [iD] at hx; rcases hx with rfl | rfl | rfl | rfl | rfl | rfl | rfl | rfl | rfl | rfl | rfl | rfl | rfl | rfl <;> rfl) (by decide) (by decide) (by decide)) rfl rfl ?_
  refine walk ?_
  exact l_end trivial (by decide) rfl rfl rfl rfl rfl
theorem tbQ_big {n k : Nat} (hn : 15 ≤ n) : tbQ n k = false := by
  unfold tbQ
  simp
  (repeat' split) <;> omega
theorem tk_Eh (n k : Nat) (hk : k < 8) : tkB [10, 17, 25, 33, 41, 48, 57, 66, 74, 80, 90, 97, 105, 113] n k = tbQ n k := by
  by_cases hn : n < 15
  · exact (by decide : ∀ n < 15, ∀ k < 8, tkB [10, 17, 25, 33, 41, 48, 57, 66, 74, 80, 90, 97, 105, 113] n k = tbQ n k) n hn k hk
  · rw [show tkB [10, 17, 25, 33, 41, 48, 57, 66, 74, 80, 90, 97, 105, 113] n k = false by unfold tkB; simp; omega, tbQ_big (by omega)]
end Go.Proofs.YtcinfkbdmjnjlaaGreatDoor
