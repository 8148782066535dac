/- Exp: read, with more behind; read, and called so. -/
import Derived.Test.YtcinfkbdmjnjlaaGreatDoorQW
import Derived.Test.YtcinfkbdmjnjlaaGreatDoorX29
import Derived.Test.YtcinfkbdmjnjlaaGreatDoorR5
set_option linter.unusedSimpArgs false
set_option linter.unusedVariables false
set_option maxRecDepth 100000
namespace Go.Proofs.YtcinfkbdmjnjlaaGreatDoor
open Go Go.Abs
variable (B : Fr)
def Eh.setU (x : Eh) (u : List UInt8) : Eh := { x with u := u }
variable {s w t : List UInt8} {d : Int} {x y : Eh}
theorem Eh_some (hB : BOk B) (hl : s.length < big) (hd1 : -9223372036854775808 ≤ d) (hd2 : d < 9223372036854775808) (h : okEh s d = some x) : CallsA (cx B) 12 [sT s, .d (.int .i64 d)] [] (.tup [.d x.d, .d .nili]) [] := by
  have := (Eh_read B hB s d hl hd1 hd2).1
  rw [h] at this; exact this
theorem Eh_noneE (hB : BOk B) (hl : s.length < big) (hd1 : -9223372036854775808 ≤ d) (hd2 : d < 9223372036854775808) (h : okEh s d = none) : ∃ e : Er, EIn s.length e ∧ CallsA (cx B) 12 [sT s, .d (.int .i64 d)] [] (.tup [.d noEh.d, .d e.d]) [] := by
  have := (Eh_read B hB s d hl hd1 hd2).1
  rw [h] at this; exact this
theorem firstEh_calls (hB : BOk B) : CallsA (cx B) 11 [] [] (.d (.bool true)) [] := by
  have h1 := MarshalZ B false (-1) [1, 300] [] 0 (by omega) (by omega) (by decide) (by unfold big; decide) (by omega) (by omega)
  rw [if_pos (show mayB [] 0 = true by rfl), show marB (-1) [1, 300] [] = [8, 1, 18, 3, 1, 172, 2] by rfl] at h1
  have h2 := Eh_some B hB (s := [66, 0]) (d := 1) (x := ⟨[], 0, 0, 0, false, 0, false, 0, false, 0, 0, 0, true, noBk, false, noBk, [], 0, 0, []⟩) (by unfold big; decide) (by omega) (by omega) (by rfl)
  refine l_body (X := cx B) (fn := Tryz.f11) Tryz.func11 rfl rfl rfl rfl rfl 0 [] rfl rfl ?_
  refine walk ?_
  refine l_step (.buildSlice (es := [uD 1, uD 300]) rfl rfl rfl rfl rfl rfl (by intro x hx; simp at hx; rcases hx with rfl | rfl <;> rfl) (by simp) (by decide) (by decide)) rfl rfl ?_
  refine walk ?_
  refine l_call [] (h1) rfl rfl rfl rfl rfl rfl rfl (by decide) rfl rfl rfl rfl rfl ?_
  refine walk ?_
  refine l_call [] (h2) rfl rfl rfl rfl rfl rfl rfl (by decide) rfl rfl rfl rfl rfl ?_
  refine walk ?_
  exact l_end trivial (by decide) rfl rfl rfl rfl rfl
end Go.Proofs.YtcinfkbdmjnjlaaGreatDoor
