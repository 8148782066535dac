/- Me: twice the same. -/
import Derived.Test.YtmnllpkbjkenfaaGreatDoorML
set_option linter.unusedSimpArgs false
set_option linter.unusedVariables false
set_option maxRecDepth 100000
namespace Go.Proofs.YtmnllpkbjkenfaaGreatDoor
open Go Go.Abs
variable (B : Fr)
theorem MetricTwice_law (hB : BOk B) (s : List UInt8) (hs : s.length ≤ 9223372036854775807) (d : Int) (hd1 : -9223372036854775808 ≤ d) (hd2 : d < 9223372036854775808) :
  k'1 (cx B) 10 [sT s, .d (.int .i64 d)] [] (.d (.bool true)) [] := by
 have hf := firstMe_calls B hB
 refine k'2 (X := cx B) (fn := Tryz.f10) Tryz.func10 rfl rfl rfl rfl rfl 0 [] rfl rfl ?_
 refine Y ?_
 refine l_cw [] (hf) rfl rfl rfl ?_
 by_cases h1 : s.length > 6000
 ·rw [show decide ((s.length : Int) > 6000) = true from decide_eq_true (by omega)]
  refine Y ?_
  refine k'4 [] (hf) rfl rfl rfl ?_
  exact Z
 rw [show decide ((s.length : Int) > 6000) = false from decide_eq_false (by omega)]
 refine Y ?_
 have b1 : s.length < big := by unfold big; omega
 cases hx : okMe s d with
 | none =>
  obtain ⟨T, x, c1⟩ := Me_none B hB b1 hd1 hd2 hx
  have c3 := Me_Same_calls B noMe noMe noMe.d noMe.d (by unfold big; decide) Me.R_no Me.R_no
  rw [Me.eq_self] at c3
  refine l_cw [] (c1) rfl rfl rfl ?_
  refine l_cw [] (hf) rfl rfl rfl ?_
  refine k'a [] (c3) rfl rfl rfl rfl rfl ?_
  exact Z
 | some x =>
  have c1 := Me_some B hB b1 hd1 hd2 hx
  obtain ⟨hmay, hwf, hsz⟩ := Me_told _ _ _ hx
  have hbig : x.sz < big := by unfold big; omega
  have c2 := k'3s B x x.d d hbig hwf x.d_R hd1 hd2
  rw [if_pos hmay] at c2
  have hml := x.mar_len
  have hback := (Me_back d x ⟨hbig, hwf⟩ hmay).1
  have c3 := Me_some B hB (show x.mar.length < big by omega) hd1 hd2 hback
  have c4 := Me_May_calls B x x.d d hbig x.d_R hd1 hd2
  rw [hmay] at c4
  have c5 := Me_Same_calls B x x x.d x.d hbig x.d_R x.d_R
  rw [Me.eq_self] at c5
  refine l_cw [] (c1) rfl rfl rfl ?_
  refine l_cw [] (c2) rfl rfl rfl ?_
  refine l_cw [] (c3) rfl rfl rfl ?_
  refine l_cw [] (c2) rfl rfl rfl ?_
  refine l_cw [] (hf) rfl rfl rfl ?_
  refine k'1n [] (c4) rfl rfl rfl rfl rfl ?_
  refine k'1n [] (c5) rfl rfl rfl rfl rfl ?_
  rw [show (x.mar == x.mar) = true by simp]
  exact k'i rfl
