/- Me: alike, as the document tells. -/
import Derived.Test.YtmnllpkbjkenfaaGreatDoorML
import Derived.Test.YtmnllpkbjkenfaaGreatDoorMS
import Derived.Test.YtmnllpkbjkenfaaGreatDoorMV
set_option linter.unusedSimpArgs false
set_option linter.unusedVariables false
set_option maxRecDepth 100000
namespace Go.Proofs.YtmnllpkbjkenfaaGreatDoor
open Go Go.Abs
variable (B : Fr)
theorem MetricSame_law (hB : BOk B) (x : Me) (xa : D) (hR : x.R xa) (hp : x.ln ∧ x.wf) (y : Me) (ya : D) (hS : y.R ya) (hq : y.ln ∧ y.wf) :
  k'1 (cx B) 8 [.d xa, .d ya] [] (.d (.bool true)) [] := by
 have hf := firstMe_calls B hB
 obtain ⟨a0, a1, a2, a3, a4, a5, a6, a7, a8, a9, a10, a11, a12, a13, a14, a15, a16, a17, rfl⟩ := Me.R_sh hR
 obtain ⟨b0, b1, b2, b3, b4, b5, b6, b7, b8, b9, b10, b11, b12, b13, b14, b15, b16, b17, rfl⟩ := Me.R_sh hS
 have hr := RmMe_calls B x _ hp.1 hR
 have hr' := RmMe_calls B y _ hq.1 hS
 refine k'2 (X := cx B) (fn := Tryz.f8) Tryz.func8 rfl rfl rfl rfl rfl 0 [] rfl rfl ?_
 refine Y ?_
 refine l_cw [] (hf) rfl rfl rfl ?_
 refine l_cw [] (hr) rfl rfl rfl ?_
 by_cases h1 : rmMe x 12000 < 0
 ·rw [show decide (rmMe x 12000 < 0) = true from decide_eq_true h1]
  refine Y ?_
  refine k'3 [] (hf) rfl rfl rfl ?_
  exact Z
 rw [show decide (rmMe x 12000 < 0) = false from decide_eq_false h1]
 refine Y ?_
 refine k'1c [] (hr') rfl rfl rfl rfl rfl ?_
 by_cases h2 : rmMe y 12000 < 0
 ·rw [show decide (rmMe y 12000 < 0) = true from decide_eq_true h2]
  refine Y ?_
  refine k'3 [] (hf) rfl rfl rfl ?_
  exact Z
 rw [show decide (rmMe y 12000 < 0) = false from decide_eq_false h2]
 refine Y ?_
 have hsz := rmMe_sz h1
 have hbig : x.sz < big := by unfold big; omega
 have c1 := Me_Same_calls B x y _ _ hbig hR hS
 have c2 := refMe_calls B x y _ _ hbig hR hS
 have c3 := Me_Same_calls B x x _ _ hbig hR hR
 rw [Me.eq_self] at c3
 generalize x.eq y = q at *
 refine x_cw [] (hf) rfl rfl rfl ?_
 refine x_cw [] (c1) rfl rfl rfl ?_
 refine k'1j [] (c2) rfl rfl rfl ?_
 (repeat ((with_reducible refine k'15 ?_); first | refine k'26 rfl rfl ?_ | refine k'1o rfl rfl rfl ?_ | refine k'1z rfl rfl rfl rfl rfl rfl ?_))
 rw [show (q == q) = true by simp]
 refine Y ?_
 refine k'1j [] (c3) rfl rfl rfl ?_
 exact Z
