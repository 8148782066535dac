/- Me: there and back. -/
import Derived.Test.YtmnllpkbjkenfaaGreatDoorML
import Derived.Test.YtmnllpkbjkenfaaGreatDoorMV
set_option linter.unusedSimpArgs false
set_option linter.unusedVariables false
set_option maxRecDepth 100000
namespace Go.Proofs.YtmnllpkbjkenfaaGreatDoor
open Go Go.Abs
variable (B : Fr)
theorem MetricBack_law (hB : BOk B) (x : Me) (xa : D) (hR : x.R xa) (hp : x.ln ∧ x.wf)
  (d : Int) (hd1 : -9223372036854775808 ≤ d) (hd2 : d < 9223372036854775808) (less : Int) (hl1 : -9223372036854775808 ≤ less) (hl2 : less < 9223372036854775808) :
  k'1 (cx B) 9 [.d xa, .d (.int .i64 d), .d (.int .i64 less)] [] (.d (.bool true)) [] := by
 have hf := firstMe_calls B hB
 have hr := RmMe_calls B x xa hp.1 hR
 have hwf := hp.2
 obtain ⟨a0, a1, a2, a3, a4, a5, a6, a7, a8, a9, a10, a11, a12, a13, a14, a15, a16, a17, rfl⟩ := Me.R_sh hR
 refine k'2 (X := cx B) (fn := Tryz.f9) Tryz.func9 rfl rfl rfl rfl rfl 0 [] rfl rfl ?_
 refine Y ?_
 refine l_cw [] (hf) rfl rfl rfl ?_
 refine l_cw [] (hr) rfl rfl rfl ?_
 by_cases h1 : rmMe x 12000 < 0
 ·rw [show decide (rmMe x 12000 < 0) = true from decide_eq_true h1]
  refine Y ?_
  refine k'3 [] (hf) rfl rfl rfl ?_
  exact Z
 rw [show decide (rmMe x 12000 < 0) = false from decide_eq_false h1]
 refine Y ?_
 by_cases h2 : less < 0
 ·rw [show decide (less < 0) = true from decide_eq_true h2]
  refine Y ?_
  refine k'3 [] (hf) rfl rfl rfl ?_
  exact Z
 rw [show decide (less < 0) = false from decide_eq_false h2]
 refine Y ?_
 by_cases h3 : less > d
 ·rw [show decide (less > d) = true from decide_eq_true h3]
  refine Y ?_
  refine k'3 [] (hf) rfl rfl rfl ?_
  exact Z
 rw [show decide (less > d) = false from decide_eq_false h3]
 refine Y ?_
 have hsz := rmMe_sz h1
 have hbig : x.sz < big := by unfold big; omega
 have c2 := k'44 B x _ d hbig hwf hR hd1 hd2
 have hw : IntKind.i64.wrap (d - less) = d - less := k'1l (by omega) (by omega)
 cases hmay : x.may d
 ·rw [hmay, if_neg (by simp)] at c2
  refine l_cw [] (c2) rfl rfl rfl ?_
  refine k'3 [] (hf) rfl rfl rfl ?_
  exact Z
 rw [hmay, if_pos rfl] at c2
 have hml := x.mar_len
 obtain ⟨hback, hless⟩ := Me_back d x ⟨hbig, hwf⟩ hmay
 have hmb : x.mar.length < big := by omega
 have c3 := Me_some B hB hmb hd1 hd2 hback
 have c5 := Me_Same_calls B x x _ x.d hbig hR x.d_R
 rw [Me.eq_self] at c5
 have c4 := Me_May_calls B x _ (d - less) hbig hR (by omega) (by omega)
 cases hm2 : x.may (d - less)
 rotate_left
 ·rw [hm2] at c4
  have c6 := Me_some B hB hmb (show -9223372036854775808 ≤ d - less by omega) (show d - less < 9223372036854775808 by omega) (Me_back (d - less) x ⟨hbig, hwf⟩ hm2).1
  refine l_cw [] (c2) rfl rfl rfl ?_
  refine l_cw [] (c3) rfl rfl rfl ?_
  rw [hw]
  refine l_cw [] (c6) rfl rfl rfl ?_
  refine x_cw [] (hf) rfl rfl rfl ?_
  refine x_cw [] (c5) rfl rfl rfl ?_
  rw [hw]
  refine x_cw [] (c4) rfl rfl rfl ?_
  refine k'1m [] (c5) rfl rfl rfl ?_
  exact Z
 rw [hm2] at c4
 obtain ⟨T, y, c6⟩ := Me_none B hB hmb (show -9223372036854775808 ≤ d - less by omega) (show d - less < 9223372036854775808 by omega) (hless (d - less) (by omega) hm2)
 refine l_cw [] (c2) rfl rfl rfl ?_
 refine l_cw [] (c3) rfl rfl rfl ?_
 rw [hw]
 refine l_cw [] (c6) rfl rfl rfl ?_
 refine x_cw [] (hf) rfl rfl rfl ?_
 refine x_cw [] (c5) rfl rfl rfl ?_
 rw [hw]
 refine k'1m [] (c4) rfl rfl rfl ?_
 exact Z
