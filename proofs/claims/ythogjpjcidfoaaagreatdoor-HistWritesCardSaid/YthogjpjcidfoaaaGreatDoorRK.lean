/- The reference: values and attributes read. -/
import Derived.Test.YthogjpjcidfoaaaGreatDoorPAB
import Derived.Test.YthogjpjcidfoaaaGreatDoorR7

set_option linter.unusedSimpArgs false
set_option linter.unusedVariables false
set_option maxRecDepth 100000
namespace Go.Proofs.YthogjpjcidfoaaaGreatDoor
open Go Go.Abs
/-! What is told of a message's records. -/
/-! An attribute, record by record. -/
theorem tk_K (n k : Nat) (hk : k < 8) : tkB [10, 18] n k = tbK n k := by
  unfold tkB tbK
  rw [Bool.eq_iff_iff]
  simp
  omega
theorem tk_L (n k : Nat) (hk : k < 8) : tkB [10] n k = tbL n k := by
  unfold tkB tbL
  rw [Bool.eq_iff_iff]
  simp
  omega
theorem tbV_big {n k : Nat} (hn : 9 ≤ n) : tbV n k = false := by
  unfold tbV
  simp
  (repeat' split) <;> omega
theorem tk_V (n k : Nat) (hk : k < 8) : tkB [10, 16, 24, 33, 42, 50, 58] n k = tbV n k := by
  by_cases hn : n < 9
  · exact (by decide : ∀ n < 9, ∀ k < 8, tkB [10, 16, 24, 33, 42, 50, 58] n k = tbV n k) n hn k hk
  · rw [show tkB [10, 16, 24, 33, 42, 50, 58] n k = false by unfold tkB; simp; omega, tbV_big (by omega)]
variable (B : Fr)
theorem pairs_calls : CallsA (cx B) 135 [] [] (.d (.sl false ([10, 18].map iD))) [] := by
  refine l_body (X := cx B) (fn := Tryz.f135) Tryz.func135 rfl rfl rfl rfl rfl 0 [] rfl rfl ?_
  refine walk ?_
  (try refine l_open rfl ?_)
  refine l_step (.buildSlice (es := [10, 18].map iD) rfl rfl rfl rfl rfl rfl (by intro x hx; simp [iD] at hx; rcases hx with rfl | rfl <;> rfl) (by decide) (by decide) (by decide)) rfl rfl ?_
  refine walk ?_
  exact l_end trivial (by decide) rfl rfl rfl rfl rfl
theorem rlists_calls : CallsA (cx B) 180 [] [] (.d (.sl false ([10].map iD))) [] := by
  refine l_body (X := cx B) (fn := Tryz.f180) Tryz.func180 rfl rfl rfl rfl rfl 0 [] rfl rfl ?_
  refine walk ?_
  (try refine l_open rfl ?_)
  refine l_step (.buildSlice (es := [10].map iD) rfl rfl rfl rfl rfl rfl (by intro x hx; simp [iD] at hx; subst hx; rfl) (by decide) (by decide) (by decide)) rfl rfl ?_
  refine walk ?_
  exact l_end trivial (by decide) rfl rfl rfl rfl rfl
theorem values_calls : CallsA (cx B) 175 [] [] (.d (.sl false ([10, 16, 24, 33, 42, 50, 58].map iD))) [] := by
  refine l_body (X := cx B) (fn := Tryz.f175) Tryz.func175 rfl rfl rfl rfl rfl 0 [] rfl rfl ?_
  refine walk ?_
  (try refine l_open rfl ?_)
  refine l_step (.buildSlice (es := [10, 16, 24, 33, 42, 50, 58].map iD) rfl rfl rfl rfl rfl rfl (by intro x hx; simp [iD] at hx; rcases hx with rfl | rfl | rfl | rfl | rfl | rfl | rfl <;> rfl) (by decide) (by decide) (by decide)) rfl rfl ?_
  refine walk ?_
  exact l_end trivial (by decide) rfl rfl rfl rfl rfl
end Go.Proofs.YthogjpjcidfoaaaGreatDoor
