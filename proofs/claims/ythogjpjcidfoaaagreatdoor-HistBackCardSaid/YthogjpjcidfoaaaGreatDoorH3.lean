/- Hi: there and back. -/
import Derived.Test.YthogjpjcidfoaaaGreatDoorHL
import Derived.Test.YthogjpjcidfoaaaGreatDoorHV
set_option linter.unusedSimpArgs false
set_option linter.unusedVariables false
set_option maxRecDepth 100000
namespace Go.Proofs.YthogjpjcidfoaaaGreatDoor
open Go Go.Abs
variable (B : Fr)
theorem HistBack_law (hB : BOk B) (x : Hi) (xa : D) (hR : x.R xa) (hp : x.ln ∧ x.wf)
    (d : Int) (hd1 : -9223372036854775808 ≤ d) (hd2 : d < 9223372036854775808) (less : Int) (hl1 : -9223372036854775808 ≤ less) (hl2 : less < 9223372036854775808) :
    CallsA (cx B) 7 [.d xa, .d (.int .i64 d), .d (.int .i64 less)] [] (.d (.bool true)) [] := by
  have hf := firstHi_calls B hB
  have hr := RmHi_calls B x xa hp.1 hR
  have hwf := hp.2
  obtain ⟨a0, a1, a2, a3, a4, a5, a6, a7, a8, a9, a10, a11, a12, a13, a14, a15, a16, a17, a18, rfl⟩ := Hi.R_sh hR
  refine l_body (X := cx B) (fn := Tryz.f7) Tryz.func7 rfl rfl rfl rfl rfl 0 [] rfl rfl ?_
  refine walk ?_
  refine l_call [] (hf) rfl rfl rfl rfl rfl rfl rfl (by decide) rfl rfl rfl rfl rfl ?_
  refine walk ?_
  refine l_call [] (hr) rfl rfl rfl rfl rfl rfl rfl (by decide) rfl rfl rfl rfl rfl ?_
  refine walk ?_
  by_cases h1 : rmHi x 12000 < 0
  · rw [show decide (rmHi x 12000 < 0) = true from decide_eq_true h1]
    refine walk ?_
    refine l_call [] (hf) rfl rfl rfl rfl rfl rfl rfl (by decide) rfl rfl rfl rfl rfl ?_
    refine walk ?_
    exact l_end trivial (by decide) rfl rfl rfl rfl rfl
  rw [show decide (rmHi x 12000 < 0) = false from decide_eq_false h1]
  refine walk ?_
  by_cases h2 : less < 0
  · rw [show decide (less < 0) = true from decide_eq_true h2]
    refine walk ?_
    refine l_call [] (hf) rfl rfl rfl rfl rfl rfl rfl (by decide) rfl rfl rfl rfl rfl ?_
    refine walk ?_
    exact l_end trivial (by decide) rfl rfl rfl rfl rfl
  rw [show decide (less < 0) = false from decide_eq_false h2]
  refine walk ?_
  by_cases h3 : less > d
  · rw [show decide (less > d) = true from decide_eq_true h3]
    refine walk ?_
    refine l_call [] (hf) rfl rfl rfl rfl rfl rfl rfl (by decide) rfl rfl rfl rfl rfl ?_
    refine walk ?_
    exact l_end trivial (by decide) rfl rfl rfl rfl rfl
  rw [show decide (less > d) = false from decide_eq_false h3]
  refine walk ?_
  have hsz := rmHi_sz h1
  have hbig : x.sz < big := by unfold big; omega
  have c2 := Hi_Marshal_calls B x _ d hbig hwf hR hd1 hd2
  have hw : IntKind.i64.wrap (d - less) = d - less := wrapI (by omega) (by omega)
  cases hmay : x.may d with
  | false =>
    rw [hmay, if_neg (by simp)] at c2
    refine l_call [] (c2) rfl rfl rfl rfl rfl rfl rfl (by decide) rfl rfl rfl rfl rfl ?_
    refine walk ?_
    refine l_call [] (hf) rfl rfl rfl rfl rfl rfl rfl (by decide) rfl rfl rfl rfl rfl ?_
    refine walk ?_
    exact l_end trivial (by decide) rfl rfl rfl rfl rfl
  | true =>
    rw [hmay, if_pos rfl] at c2
    have hml := x.mar_len
    obtain ⟨hback, hless⟩ := Hi_back d x ⟨hbig, hwf⟩ hmay
    have hmb : x.mar.length < big := by omega
    have c3 := Hi_some B hB hmb hd1 hd2 hback
    have c5 := Hi_Same_calls B x x _ x.d hbig hR x.d_R
    rw [Hi.eq_self] at c5
    have c4 := Hi_May_calls B x _ (d - less) hbig hR (by omega) (by omega)
    cases hm2 : x.may (d - less) with
    | true =>
      rw [hm2] at c4
      have c6 := Hi_some B hB hmb (show -9223372036854775808 ≤ d - less by omega) (show d - less < 9223372036854775808 by omega) (Hi_back (d - less) x ⟨hbig, hwf⟩ hm2).1
      refine l_call [] (c2) rfl rfl rfl rfl rfl rfl rfl (by decide) rfl rfl rfl rfl rfl ?_
      refine walk ?_
      refine l_call [] (c3) rfl rfl rfl rfl rfl rfl rfl (by decide) rfl rfl rfl rfl rfl ?_
      refine walk ?_
      rw [hw]
      refine l_call [] (c6) rfl rfl rfl rfl rfl rfl rfl (by decide) rfl rfl rfl rfl rfl ?_
      refine walk ?_
      refine x_call [] (hf) rfl rfl rfl rfl rfl rfl (by decide) rfl rfl rfl rfl rfl rfl ?_
      refine walk ?_
      refine x_call [] (c5) rfl rfl rfl rfl rfl rfl (by decide) rfl rfl rfl rfl rfl rfl ?_
      refine walk ?_
      rw [hw]
      refine x_call [] (c4) rfl rfl rfl rfl rfl rfl (by decide) rfl rfl rfl rfl rfl rfl ?_
      refine walk ?_
      refine x_call [] (c5) rfl rfl rfl rfl rfl rfl (by decide) rfl rfl rfl rfl rfl rfl ?_
      refine walk ?_
      exact l_end trivial (by decide) rfl rfl rfl rfl rfl
    | false =>
      rw [hm2] at c4
      obtain ⟨T, y, c6⟩ := Hi_none B hB hmb (show -9223372036854775808 ≤ d - less by omega) (show d - less < 9223372036854775808 by omega) (hless (d - less) (by omega) hm2)
      refine l_call [] (c2) rfl rfl rfl rfl rfl rfl rfl (by decide) rfl rfl rfl rfl rfl ?_
      refine walk ?_
      refine l_call [] (c3) rfl rfl rfl rfl rfl rfl rfl (by decide) rfl rfl rfl rfl rfl ?_
      refine walk ?_
      rw [hw]
      refine l_call [] (c6) rfl rfl rfl rfl rfl rfl rfl (by decide) rfl rfl rfl rfl rfl ?_
      refine walk ?_
      refine x_call [] (hf) rfl rfl rfl rfl rfl rfl (by decide) rfl rfl rfl rfl rfl rfl ?_
      refine walk ?_
      refine x_call [] (c5) rfl rfl rfl rfl rfl rfl (by decide) rfl rfl rfl rfl rfl rfl ?_
      refine walk ?_
      rw [hw]
      refine x_call [] (c4) rfl rfl rfl rfl rfl rfl (by decide) rfl rfl rfl rfl rfl rfl ?_
      refine walk ?_
      exact l_end trivial (by decide) rfl rfl rfl rfl rfl
end Go.Proofs.YthogjpjcidfoaaaGreatDoor
