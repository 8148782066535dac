/- Number: read, with more behind; read, and called so. -/
import Derived.Test.YthogjpjcidfoaaaGreatDoorNW
import Derived.Test.YthogjpjcidfoaaaGreatDoorX29
import Derived.Test.YthogjpjcidfoaaaGreatDoorR5
set_option linter.unusedSimpArgs false
set_option linter.unusedVariables false
set_option maxRecDepth 100000
namespace Go.Proofs.YthogjpjcidfoaaaGreatDoor
open Go Go.Abs
variable (B : Fr)
def Nb.setU (x : Nb) (u : List UInt8) : Nb := { x with u := u }
variable {s w t : List UInt8} {d : Int} {x y : Nb}
theorem Nb_some (hB : BOk B) (hl : s.length < big) (hd1 : -9223372036854775808 ≤ d) (hd2 : d < 9223372036854775808) (h : okNb s d = some x) : CallsA (cx B) 33 [sT s, .d (.int .i64 d)] [] (.tup [.d x.d, .d .nili]) [] := by
  have := (Nb_read B hB s d hl hd1 hd2).1
  rw [h] at this; exact this
theorem firstNb_calls (hB : BOk B) : CallsA (cx B) 10 [] [] (.d (.bool true)) [] := by
  have h1 := Nb_Marshal_calls B ⟨[], 0, 0, 0, 0, [], 1, []⟩ _ 0 (by unfold big; decide) ⟨by simp, by decide, by decide, by decide, by simp, by decide⟩ (Nb.d_R _) (by omega) (by omega)
  rw [if_pos (show Nb.may ⟨[], 0, 0, 0, 0, [], 1, []⟩ 0 = true by rfl), show Nb.mar ⟨[], 0, 0, 0, 0, [], 1, []⟩ = [64, 1] by rfl] at h1
  have h2 := Nb_some B hB (s := [64, 1]) (d := 0) (x := ⟨[], 0, 0, 0, 0, [], 1, []⟩) (by unfold big; decide) (by omega) (by omega) (by rfl)
  have h3 := Nb_Size_calls B ⟨[], 0, 0, 1, 0, [], 0, []⟩ _ (by unfold big; decide) ⟨by simp, by decide, by decide, by decide, by simp, by decide⟩ (Nb.d_R _) (by rfl)
  rw [show (Nb.mar ⟨[], 0, 0, 1, 0, [], 0, []⟩).length = 9 by rfl] at h3
  refine l_body (X := cx B) (fn := Tryz.f10) Tryz.func10 rfl rfl rfl rfl rfl 0 [] rfl rfl ?_
  refine walk ?_
  refine l_call [] (h1) rfl rfl rfl rfl rfl rfl rfl (by decide) rfl rfl rfl rfl rfl ?_
  refine walk ?_
  refine l_call [] (h2) rfl rfl rfl rfl rfl rfl rfl (by decide) rfl rfl rfl rfl rfl ?_
  refine walk ?_
  refine l_callG [] (h3) rfl rfl rfl rfl rfl rfl rfl rfl rfl (by decide) rfl rfl rfl rfl rfl ?_
  refine walk ?_
  exact l_end trivial (by decide) rfl rfl rfl rfl rfl
end Go.Proofs.YthogjpjcidfoaaaGreatDoor
