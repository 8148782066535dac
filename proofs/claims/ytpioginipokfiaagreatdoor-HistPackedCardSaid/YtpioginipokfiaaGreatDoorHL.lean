/- Hist: read, with more behind; read, and called so. -/
import Derived.Test.YtpioginipokfiaaGreatDoorHW
set_option linter.unusedSimpArgs false
set_option linter.unusedVariables false
set_option maxRecDepth 100000
namespace Go.Proofs.YtpioginipokfiaaGreatDoor
open Go Go.Abs
variable (B : Fr)
def Hi.setU (x : Hi) (u : List UInt8) : Hi := { x with u := u }
variable {s w t : List UInt8} {d : Int} {x y : Hi}
theorem Hi_some (hB : BOk B) (hl : s.length < big) (hd1 : -9223372036854775808 ≤ d) (hd2 : d < 9223372036854775808) (h : okHi s d = some x) : k'0 (cx B) 7 [sT s, .d (.int .i64 d)] [] (.tup [.d x.d, .d .nili]) [] := by
 have := (Hi_read B hB s d hl hd1 hd2).1
 rw [h] at this; exact this
theorem firstHi_calls (hB : BOk B) : k'0 (cx B) 5 [] [] (.d (.bool true)) [] := by
 have h1 := k'k B ⟨[], 0, 0, 0, true, 0, false, 0, false, 0, [], [], [], 0, []⟩ _ 0 (by unfold big; decide) ⟨by simp, by decide, by decide, by decide, by decide, by decide, by decide, by simp, by simp, by simp, by decide⟩ (Hi.d_R _) (by omega) (by omega)
 rw [if_pos (show Hi.may ⟨[], 0, 0, 0, true, 0, false, 0, false, 0, [], [], [], 0, []⟩ 0 = true by rfl), show Hi.mar ⟨[], 0, 0, 0, true, 0, false, 0, false, 0, [], [], [], 0, []⟩ = [41, 0, 0, 0, 0, 0, 0, 0, 0] by rfl] at h1
 have h2 := Hi_some B hB (s := [49, 7, 0, 0, 0, 0, 0, 0, 0]) (d := 0) (x := ⟨[], 0, 0, 0, false, 0, false, 0, false, 0, [7], [], [], 0, []⟩) (by unfold big; decide) (by omega) (by omega) (by rfl)
 refine l_bw Tryz.func5 0 [] ?_
 refine l_cw [] (h1) rfl rfl rfl ?_
 refine l_cw [] (h2) rfl rfl rfl ?_
 refine l_stepG (.indexAddr (k := .i64) (n := 0) (es := [uD 7]) (u := uD 7) rfl rfl rfl rfl (.inl ⟨_, rfl⟩) rfl (by omega) rfl rfl (by decide)) rfl rfl rfl rfl ?_
 exact Z
