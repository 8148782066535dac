/- Hi: read as the document tells. -/
import Derived.Test.YtpioginipokfiaaGreatDoorHR
set_option linter.unusedSimpArgs false
set_option linter.unusedVariables false
set_option maxRecDepth 100000
namespace Go.Proofs.YtpioginipokfiaaGreatDoor
open Go Go.Abs
variable (B : Fr)
theorem HistReads_law (hB : BOk B) (s : List UInt8) (hs : s.length ≤ 9223372036854775807) (d : Int) (hd1 : -9223372036854775808 ≤ d) (hd2 : d < 9223372036854775808) :
  k'1 (cx B) 4 [sT s, .d (.int .i64 d)] [] (.d (.bool true)) [] := by
 have hf := firstHi_calls B hB
 refine l_bw Tryz.func4 0 [] ?_
 refine l_cw [] (hf) rfl rfl rfl ?_
 by_cases h1 : s.length > 6000
 ·rw [show decide ((s.length : Int) > 6000) = true from decide_eq_true (by omega)]
  refine Y ?_
  refine k'4 [] (hf) rfl rfl rfl ?_
  exact Z
 rw [show decide ((s.length : Int) > 6000) = false from decide_eq_false (by omega)]
 refine Y ?_
 have b1 : s.length < big := by unfold big; omega
 have c2 := ReadHi_calls B s d b1 hd1 hd2
 unfold rHiT at c2
 cases hx : okHi s d with
 | some x =>
  have c1 := Hi_some B hB b1 hd1 hd2 hx
  obtain ⟨hmay, hwf, hsz⟩ := Hi_told _ _ _ hx
  have c3 := refHi_calls B x x x.d x.d (by unfold big; omega) x.d_R x.d_R
  rw [Hi.eq_self] at c3
  rw [hx] at c2
  dsimp only at c2
  refine l_cw [] (c1) rfl rfl rfl ?_
  refine l_cw [] (c2) rfl rfl rfl ?_
  refine l_cw [] (hf) rfl rfl rfl ?_
  refine k'q [] (c3) rfl rfl rfl rfl rfl ?_
  exact Z
 | none =>
  obtain ⟨e, hin, c1⟩ := Hi_noneE B hB b1 hd1 hd2 hx
  have c4 := wrong_calls B hB e s.length b1 hin
  have c3 := refHi_calls B noHi noHi noHi.d noHi.d (by unfold big; decide) Hi.R_no Hi.R_no
  rw [Hi.eq_self] at c3
  rw [hx] at c2
  dsimp only at c2
  obtain ⟨T, y, hy⟩ := er_iface e
  rw [hy] at c1 c4
  refine l_cw [] (c1) rfl rfl rfl ?_
  refine l_cw [] (c2) rfl rfl rfl ?_
  refine l_cw [] (hf) rfl rfl rfl ?_
  refine k'3g [] (c4) rfl rfl rfl rfl rfl ?_
  refine k'q [] (c3) rfl rfl rfl rfl rfl ?_
  exact Z
