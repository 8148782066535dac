/- Eh: read as the document tells. -/
import Derived.Test.YtcinfkbdmjnjlaaGreatDoorQR
set_option linter.unusedSimpArgs false
set_option linter.unusedVariables false
set_option maxRecDepth 100000
namespace Go.Proofs.YtcinfkbdmjnjlaaGreatDoor
open Go Go.Abs
variable (B : Fr)
theorem ExphReads_law (hB : BOk B) (s : List UInt8) (hs : s.length ≤ 9223372036854775807) (d : Int) (hd1 : -9223372036854775808 ≤ d) (hd2 : d < 9223372036854775808) :
    CallsA (cx B) 4 [sT s, .d (.int .i64 d)] [] (.d (.bool true)) [] := by
  have hf := firstEh_calls B hB
  refine l_body (X := cx B) (fn := Tryz.f4) Tryz.func4 rfl rfl rfl rfl rfl 0 [] rfl rfl ?_
  refine walk ?_
  refine l_call [] (hf) rfl rfl rfl rfl rfl rfl rfl (by decide) rfl rfl rfl rfl rfl ?_
  refine walk ?_
  by_cases h1 : s.length > 6000
  · rw [show decide ((s.length : Int) > 6000) = true from decide_eq_true (by omega)]
    refine walk ?_
    refine l_call [] (hf) rfl rfl rfl rfl rfl rfl rfl (by decide) rfl rfl rfl rfl rfl ?_
    refine walk ?_
    exact l_end trivial (by decide) rfl rfl rfl rfl rfl
  rw [show decide ((s.length : Int) > 6000) = false from decide_eq_false (by omega)]
  refine walk ?_
  have b1 : s.length < big := by unfold big; omega
  have c2 := ReadEh_calls B s d b1 hd1 hd2
  unfold rEhT at c2
  cases hx : okEh s d with
  | some x =>
    have c1 := Eh_some B hB b1 hd1 hd2 hx
    obtain ⟨hmay, hwf, hsz⟩ := Eh_told _ _ _ hx
    have c3 := refEh_calls B x x x.d x.d (by unfold big; omega) x.d_R x.d_R
    rw [Eh.eq_self] at c3
    rw [hx] at c2
    dsimp only at c2
    refine l_call [] (c1) rfl rfl rfl rfl rfl rfl rfl (by decide) rfl rfl rfl rfl rfl ?_
    refine walk ?_
    refine l_call [] (c2) rfl rfl rfl rfl rfl rfl rfl (by decide) rfl rfl rfl rfl rfl ?_
    refine walk ?_
    refine l_call [] (hf) rfl rfl rfl rfl rfl rfl rfl (by decide) rfl rfl rfl rfl rfl ?_
    refine walk ?_
    refine l_callG [] (c3) rfl rfl rfl rfl rfl rfl rfl rfl rfl (by decide) rfl rfl rfl rfl rfl ?_
    refine walk ?_
    exact l_end trivial (by decide) rfl rfl rfl rfl rfl
  | none =>
    obtain ⟨e, hin, c1⟩ := Eh_noneE B hB b1 hd1 hd2 hx
    have c4 := wrong_calls B hB e s.length b1 hin
    have c3 := refEh_calls B noEh noEh noEh.d noEh.d (by unfold big; decide) Eh.R_no Eh.R_no
    rw [Eh.eq_self] at c3
    rw [hx] at c2
    dsimp only at c2
    obtain ⟨T, y, hy⟩ := er_iface e
    rw [hy] at c1 c4
    refine l_call [] (c1) rfl rfl rfl rfl rfl rfl rfl (by decide) rfl rfl rfl rfl rfl ?_
    refine walk ?_
    refine l_call [] (c2) rfl rfl rfl rfl rfl rfl rfl (by decide) rfl rfl rfl rfl rfl ?_
    refine walk ?_
    refine l_call [] (hf) rfl rfl rfl rfl rfl rfl rfl (by decide) rfl rfl rfl rfl rfl ?_
    refine walk ?_
    refine l_callG [] (c4) rfl rfl rfl rfl rfl rfl rfl rfl rfl (by decide) rfl rfl rfl rfl rfl ?_
    refine walk ?_
    refine l_callG [] (c3) rfl rfl rfl rfl rfl rfl rfl rfl rfl (by decide) rfl rfl rfl rfl rfl ?_
    refine walk ?_
    exact l_end trivial (by decide) rfl rfl rfl rfl rfl
end Go.Proofs.YtcinfkbdmjnjlaaGreatDoor
