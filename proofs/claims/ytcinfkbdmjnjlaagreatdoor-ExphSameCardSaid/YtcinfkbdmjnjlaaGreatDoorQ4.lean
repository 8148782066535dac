/- Eh: alike, as the document tells. -/
import Derived.Test.YtcinfkbdmjnjlaaGreatDoorQL
import Derived.Test.YtcinfkbdmjnjlaaGreatDoorQS
import Derived.Test.YtcinfkbdmjnjlaaGreatDoorQV
set_option linter.unusedSimpArgs false
set_option linter.unusedVariables false
set_option maxRecDepth 100000
namespace Go.Proofs.YtcinfkbdmjnjlaaGreatDoor
open Go Go.Abs
variable (B : Fr)
theorem ExphSame_law (hB : BOk B) (x : Eh) (xa : D) (hR : x.R xa) (hp : x.ln ∧ x.wf) (y : Eh) (ya : D) (hS : y.R ya) (hq : y.ln ∧ y.wf) :
    CallsA (cx B) 6 [.d xa, .d ya] [] (.d (.bool true)) [] := by
  have hf := firstEh_calls B hB
  obtain ⟨a0, a1, a2, a3, a4, a5, a6, a7, a8, a9, a10, a11, a12, a13, a14, a15, a16, a17, a18, a19, a20, a21, a22, a23, a24, a25, a26, a27, rfl⟩ := Eh.R_sh hR
  obtain ⟨b0, b1, b2, b3, b4, b5, b6, b7, b8, b9, b10, b11, b12, b13, b14, b15, b16, b17, b18, b19, b20, b21, b22, b23, b24, b25, b26, b27, rfl⟩ := Eh.R_sh hS
  have hr := RmEh_calls B x _ hp.1 hR
  have hr' := RmEh_calls B y _ hq.1 hS
  refine l_body (X := cx B) (fn := Tryz.f6) Tryz.func6 rfl rfl rfl rfl rfl 0 [] rfl rfl ?_
  refine walk ?_
  refine l_call [] (hf) rfl rfl rfl rfl rfl rfl rfl (by decide) rfl rfl rfl rfl rfl ?_
  refine walk ?_
  refine l_call [] (hr) rfl rfl rfl rfl rfl rfl rfl (by decide) rfl rfl rfl rfl rfl ?_
  refine walk ?_
  by_cases h1 : rmEh x 12000 < 0
  · rw [show decide (rmEh x 12000 < 0) = true from decide_eq_true h1]
    refine walk ?_
    refine l_call [] (hf) rfl rfl rfl rfl rfl rfl rfl (by decide) rfl rfl rfl rfl rfl ?_
    refine walk ?_
    exact l_end trivial (by decide) rfl rfl rfl rfl rfl
  rw [show decide (rmEh x 12000 < 0) = false from decide_eq_false h1]
  refine walk ?_
  refine l_callG [] (hr') rfl rfl rfl rfl rfl rfl rfl rfl rfl (by decide) rfl rfl rfl rfl rfl ?_
  refine walk ?_
  by_cases h2 : rmEh y 12000 < 0
  · rw [show decide (rmEh y 12000 < 0) = true from decide_eq_true h2]
    refine walk ?_
    refine l_call [] (hf) rfl rfl rfl rfl rfl rfl rfl (by decide) rfl rfl rfl rfl rfl ?_
    refine walk ?_
    exact l_end trivial (by decide) rfl rfl rfl rfl rfl
  rw [show decide (rmEh y 12000 < 0) = false from decide_eq_false h2]
  refine walk ?_
  have hsz := rmEh_sz h1
  have hbig : x.sz < big := by unfold big; omega
  have c1 := Eh_Same_calls B x y _ _ hbig hR hS
  have c2 := refEh_calls B x y _ _ hbig hR hS
  have c3 := Eh_Same_calls B x x _ _ hbig hR hR
  rw [Eh.eq_self] at c3
  generalize x.eq y = q at *
  refine x_call [] (hf) rfl rfl rfl rfl rfl rfl (by decide) rfl rfl rfl rfl rfl rfl ?_
  refine walk ?_
  refine x_call [] (c1) rfl rfl rfl rfl rfl rfl (by decide) rfl rfl rfl rfl rfl rfl ?_
  refine walk ?_
  refine x_call [] (c2) rfl rfl rfl rfl rfl rfl (by decide) rfl rfl rfl rfl rfl rfl ?_
  (repeat ((with_reducible refine is_runX ?_); first | refine x_skip rfl rfl ?_ | refine x_pure rfl rfl rfl ?_ | refine x_load rfl rfl rfl rfl rfl rfl ?_))
  rw [show (q == q) = true by simp]
  refine walk ?_
  refine x_call [] (c3) rfl rfl rfl rfl rfl rfl (by decide) rfl rfl rfl rfl rfl rfl ?_
  refine walk ?_
  exact l_end trivial (by decide) rfl rfl rfl rfl rfl
end Go.Proofs.YtcinfkbdmjnjlaaGreatDoor
