/- Hi: written as the document tells. -/
import Derived.Test.YthogjpjcidfoaaaGreatDoorHL
import Derived.Test.YthogjpjcidfoaaaGreatDoorHV
import Derived.Test.YthogjpjcidfoaaaGreatDoorHM
set_option linter.unusedSimpArgs false
set_option linter.unusedVariables false
set_option maxRecDepth 100000
namespace Go.Proofs.YthogjpjcidfoaaaGreatDoor
open Go Go.Abs
variable (B : Fr)
set_option maxHeartbeats 4000000 in
theorem HistWrites_law (hB : BOk B) (x : Hi) (xa : D) (hR : x.R xa) (hp : x.ln ∧ x.wf)
    (d : Int) (hd1 : -9223372036854775808 ≤ d) (hd2 : d < 9223372036854775808) :
    CallsA (cx B) 6 [.d xa, .d (.int .i64 d)] [] (.d (.bool true)) [] := by
  have hf := firstHi_calls B hB
  have hr := RmHi_calls B x xa hp.1 hR
  have hwf := hp.2
  obtain ⟨a0, a1, a2, a3, a4, a5, a6, a7, a8, a9, a10, a11, a12, a13, a14, a15, a16, a17, a18, rfl⟩ := Hi.R_sh hR
  refine l_body (X := cx B) (fn := Tryz.f6) Tryz.func6 rfl rfl rfl rfl rfl 0 [] rfl rfl ?_
  refine walk ?_
  refine l_call [] (hf) rfl rfl rfl rfl rfl rfl rfl (by decide) rfl rfl rfl rfl rfl ?_
  refine walk ?_
  refine l_call [] (hr) rfl rfl rfl rfl rfl rfl rfl (by decide) rfl rfl rfl rfl rfl ?_
  refine walk ?_
  by_cases h1 : rmHi x 12000 < 0
  · rw [show decide (rmHi x 12000 < 0) = true from decide_eq_true h1]
    refine walk ?_
    refine l_call [] (hf) rfl rfl rfl rfl rfl rfl rfl (by decide) rfl rfl rfl rfl rfl ?_
    refine walk ?_
    exact l_end trivial (by decide) rfl rfl rfl rfl rfl
  rw [show decide (rmHi x 12000 < 0) = false from decide_eq_false h1]
  refine walk ?_
  have hsz := rmHi_sz h1
  have hbig : x.sz < big := by unfold big; omega
  have c2 := Hi_Marshal_calls B x _ d hbig hwf hR hd1 hd2
  have c3 := Hi_May_calls B x _ d hbig hR hd1 hd2
  have c1 : CallsA (cx B) 26 [.d _, .d (.int .i64 d)] [] (.d (.bool (x.may d))) [] := rMayHi_calls B x _ d hbig hR hd1 hd2
  refine l_call [] (c1) rfl rfl rfl rfl rfl rfl rfl (by decide) rfl rfl rfl rfl rfl ?_
  refine walk ?_
  cases hm : x.may d with
  | true =>
    rw [hm, if_pos rfl] at c2
    rw [hm] at c3
    have c4 := rHi_calls B x _ d hbig hwf hm hR
    have c5 := Hi_Size_calls B x _ hbig hwf hR (x.far d 1073741824 (by omega) hm)
    refine l_call [] (c2) rfl rfl rfl rfl rfl rfl rfl (by decide) rfl rfl rfl rfl rfl ?_
    refine walk ?_
    refine l_call [] (c3) rfl rfl rfl rfl rfl rfl rfl (by decide) rfl rfl rfl rfl rfl ?_
    refine walk ?_
    refine l_call [] (hf) rfl rfl rfl rfl rfl rfl rfl (by decide) rfl rfl rfl rfl rfl ?_
    refine walk ?_
    refine l_callG [] (c4) rfl rfl rfl rfl rfl rfl rfl rfl rfl (by decide) rfl rfl rfl rfl rfl ?_
    refine walk ?_
    rw [show (x.mar == x.mar) = true by simp]
    refine walk ?_
    refine l_callG [] (c5) rfl rfl rfl rfl rfl rfl rfl rfl rfl (by decide) rfl rfl rfl rfl rfl ?_
    refine walk ?_
    rw [show ((x.mar.length : Int) == (x.mar.length : Int)) = true by simp]
    refine walk ?_
    exact l_end trivial (by decide) rfl rfl rfl rfl rfl
  | false =>
    rw [hm, if_neg (by simp)] at c2
    rw [hm] at c3
    have c6 := Code_calls B hB (some (Er.code 8))
    refine l_call [] (c2) rfl rfl rfl rfl rfl rfl rfl (by decide) rfl rfl rfl rfl rfl ?_
    refine walk ?_
    refine l_call [] (c3) rfl rfl rfl rfl rfl rfl rfl (by decide) rfl rfl rfl rfl rfl ?_
    refine walk ?_
    refine l_call [] (hf) rfl rfl rfl rfl rfl rfl rfl (by decide) rfl rfl rfl rfl rfl ?_
    refine walk ?_
    refine l_callG [] (c6) rfl rfl rfl rfl rfl rfl rfl rfl rfl (by decide) rfl rfl rfl rfl rfl ?_
    refine walk ?_
    exact l_end trivial (by decide) rfl rfl rfl rfl rfl
end Go.Proofs.YthogjpjcidfoaaaGreatDoor
