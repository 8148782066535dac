/- Hi: twice the same. -/
import Derived.Test.YthogjpjcidfoaaaGreatDoorHL
set_option linter.unusedSimpArgs false
set_option linter.unusedVariables false
set_option maxRecDepth 100000
namespace Go.Proofs.YthogjpjcidfoaaaGreatDoor
open Go Go.Abs
variable (B : Fr)
theorem HistTwice_law (hB : BOk B) (s : List UInt8) (hs : s.length ≤ 9223372036854775807) (d : Int) (hd1 : -9223372036854775808 ≤ d) (hd2 : d < 9223372036854775808) :
    CallsA (cx B) 8 [sT s, .d (.int .i64 d)] [] (.d (.bool true)) [] := by
  have hf := firstHi_calls B hB
  refine l_body (X := cx B) (fn := Tryz.f8) Tryz.func8 rfl rfl rfl rfl rfl 0 [] rfl rfl ?_
  refine walk ?_
  refine l_call [] (hf) rfl rfl rfl rfl rfl rfl rfl (by decide) rfl rfl rfl rfl rfl ?_
  refine walk ?_
  by_cases h1 : s.length > 6000
  · rw [show decide ((s.length : Int) > 6000) = true from decide_eq_true (by omega)]
    refine walk ?_
    refine l_call [] (hf) rfl rfl rfl rfl rfl rfl rfl (by decide) rfl rfl rfl rfl rfl ?_
    refine walk ?_
    exact l_end trivial (by decide) rfl rfl rfl rfl rfl
  rw [show decide ((s.length : Int) > 6000) = false from decide_eq_false (by omega)]
  refine walk ?_
  have b1 : s.length < big := by unfold big; omega
  cases hx : okHi s d with
  | none =>
    obtain ⟨T, x, c1⟩ := Hi_none B hB b1 hd1 hd2 hx
    have c3 := Hi_Same_calls B noHi noHi noHi.d noHi.d (by unfold big; decide) Hi.R_no Hi.R_no
    rw [Hi.eq_self] at c3
    refine l_call [] (c1) rfl rfl rfl rfl rfl rfl rfl (by decide) rfl rfl rfl rfl rfl ?_
    refine walk ?_
    refine l_call [] (hf) rfl rfl rfl rfl rfl rfl rfl (by decide) rfl rfl rfl rfl rfl ?_
    refine walk ?_
    refine l_callG [] (c3) rfl rfl rfl rfl rfl rfl rfl rfl rfl (by decide) rfl rfl rfl rfl rfl ?_
    refine walk ?_
    exact l_end trivial (by decide) rfl rfl rfl rfl rfl
  | some x =>
    have c1 := Hi_some B hB b1 hd1 hd2 hx
    obtain ⟨hmay, hwf, hsz⟩ := Hi_told _ _ _ hx
    have hbig : x.sz < big := by unfold big; omega
    have c2 := Hi_Marshal_calls B x x.d d hbig hwf x.d_R hd1 hd2
    rw [if_pos hmay] at c2
    have hml := x.mar_len
    have hback := (Hi_back d x ⟨hbig, hwf⟩ hmay).1
    have c3 := Hi_some B hB (show x.mar.length < big by omega) hd1 hd2 hback
    have c4 := Hi_May_calls B x x.d d hbig x.d_R hd1 hd2
    rw [hmay] at c4
    have c5 := Hi_Same_calls B x x x.d x.d hbig x.d_R x.d_R
    rw [Hi.eq_self] at c5
    refine l_call [] (c1) rfl rfl rfl rfl rfl rfl rfl (by decide) rfl rfl rfl rfl rfl ?_
    refine walk ?_
    refine l_call [] (c2) rfl rfl rfl rfl rfl rfl rfl (by decide) rfl rfl rfl rfl rfl ?_
    refine walk ?_
    refine l_call [] (c3) rfl rfl rfl rfl rfl rfl rfl (by decide) rfl rfl rfl rfl rfl ?_
    refine walk ?_
    refine l_call [] (c2) rfl rfl rfl rfl rfl rfl rfl (by decide) rfl rfl rfl rfl rfl ?_
    refine walk ?_
    refine l_call [] (hf) rfl rfl rfl rfl rfl rfl rfl (by decide) rfl rfl rfl rfl rfl ?_
    refine walk ?_
    refine l_callG [] (c4) rfl rfl rfl rfl rfl rfl rfl rfl rfl (by decide) rfl rfl rfl rfl rfl ?_
    refine walk ?_
    refine l_callG [] (c5) rfl rfl rfl rfl rfl rfl rfl rfl rfl (by decide) rfl rfl rfl rfl rfl ?_
    refine walk ?_
    rw [show (x.mar == x.mar) = true by simp]
    exact l_end trivial (by decide) rfl rfl rfl rfl rfl
end Go.Proofs.YthogjpjcidfoaaaGreatDoor
