/- What the chapter's examples fix. -/
import Derived.Test.YtfbckigcelmopaaGreatDoorX27
set_option linter.unusedSimpArgs false
set_option linter.unusedVariables false
set_option maxRecDepth 100000
namespace Go.Proofs.YtfbckigcelmopaaGreatDoor
open Go Go.Abs
variable (B : Fr)
def noKV : KVs := ⟨[], false, 0, [], false, 0, [], [], [], [], []⟩
def noEx : Exm := ⟨[], 0, 0, 0, [], [], []⟩
theorem first_xp : xpOf (fun _ => (noKV, none)) (fun _ => (noEx, none)) [66, 0] 1 = (⟨[], 0, 0, 0, false, 0, false, 0, false, 0, 0, 0, true, noBk, false, noBk, [], 0, 0, []⟩, none) := by rfl
theorem first_mar : marB (-1) [1, 300] [] = [8, 1, 18, 3, 1, 172, 2] := by rfl
theorem first_may : mayB [] 0 = true := by rfl
theorem first_kn : knB tbX [66, 0] 1 = [⟨8, 2, 0, [], [66, 0]⟩] := by rfl
theorem first14_calls (hB : BOk B) : CallsA (cx B) 11 [] [] (.d (.bool true)) [] := by
  have h1 := MarshalBuckets_calls B (-1) [1, 300] [] 0 (by omega) (by omega) (by intro m hm; simp at hm; omega) (by simp [big]) (by omega) (by omega)
  rw [if_pos first_may, first_mar] at h1
  have h2 := Unmarshal_calls B hB (fun _ => (noKV, none)) (fun _ => (noEx, none)) [66, 0] 1 (by simp [big]) (by omega) (by omega)
    (by rw [first_kn]; intro x hx hn; simp at hx; subst hx; simp at hn) (by rw [first_kn]; intro x hx hn; simp at hx; subst hx; simp at hn)
  rw [first_xp] at h2
  dsimp only at h2
  refine l_body (X := cx B) (fn := Tryz.f11) Tryz.func11 rfl rfl rfl rfl rfl 0 [] rfl rfl ?_
  refine walk ?_
  refine l_step (.buildSlice (es := [uD 1, uD 300]) rfl rfl rfl rfl rfl rfl (by intro x hx; simp at hx; rcases hx with rfl | rfl <;> rfl) (by simp) (by decide) (by decide)) rfl rfl ?_
  refine walk ?_
  refine l_call [] (h1) rfl rfl rfl rfl rfl rfl rfl (by decide) rfl rfl rfl rfl rfl ?_
  refine walk ?_
  refine l_call [] (h2) rfl rfl rfl rfl rfl rfl rfl (by decide) rfl rfl rfl rfl rfl ?_
  refine walk ?_
  exact l_end trivial (by decide) rfl rfl rfl rfl rfl
end Go.Proofs.YtfbckigcelmopaaGreatDoor
