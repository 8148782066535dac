/- Metrics: read, with more behind; read, and called so. -/
import Derived.Test.YtmnllpkbjkenfaaGreatDoorMU
set_option linter.unusedSimpArgs false
set_option linter.unusedVariables false
set_option maxRecDepth 100000
namespace Go.Proofs.YtmnllpkbjkenfaaGreatDoor
open Go Go.Abs
variable (B : Fr)
def Me.setU (x : Me) (u : List UInt8) : Me := { x with u := u }
variable {s w t : List UInt8} {d : Int} {x y : Me}
theorem Me_some (hB : BOk B) (hl : s.length < big) (hd1 : -9223372036854775808 ≤ d) (hd2 : d < 9223372036854775808) (h : okMe s d = some x) : k'1 (cx B) 13 [sT s, .d (.int .i64 d)] [] (.tup [.d x.d, .d .nili]) [] := by
 have := (Me_read B hB s d hl hd1 hd2).1
 rw [h] at this; exact this
def Me.points (x : Me) : Nat := x.dat.nbs.length + x.dat.his.length + x.dat.ehs.length + x.dat.sus.length
theorem Points_calls (x : Me) (xa : D) (hb : x.points < 4611686018427387904) (hx : x.R xa) : k'1 (cx B) 14 [.d xa] [] (iT x.points) [] := by
 obtain ⟨z_nbs, l_nbs, z_his, l_his, z_ehs, l_ehs, z_sus, l_sus, z_mets, l_mets, rfl, r_nbs, r_his, r_ehs, r_sus, r_mets⟩ := hx
 unfold Me.points at hb ⊢
 refine k'2 (X := cx B) (fn := Tryz.f14) Tryz.func14 rfl rfl rfl rfl rfl 0 [] rfl rfl ?_
 refine Y ?_
 rw [r_nbs.1, r_his.1, r_ehs.1, r_sus.1]
 rw [show IntKind.i64.wrap ((x.dat.nbs.length : Int) + (x.dat.his.length : Int)) = ((x.dat.nbs.length + x.dat.his.length : Nat) : Int) by rw [k'1a (by omega) (by omega)]; omega]
 rw [show IntKind.i64.wrap (((x.dat.nbs.length + x.dat.his.length : Nat) : Int) + (x.dat.ehs.length : Int)) = ((x.dat.nbs.length + x.dat.his.length + x.dat.ehs.length : Nat) : Int) by rw [k'1a (by omega) (by omega)]; omega]
 rw [show IntKind.i64.wrap (((x.dat.nbs.length + x.dat.his.length + x.dat.ehs.length : Nat) : Int) + (x.dat.sus.length : Int)) = ((x.dat.nbs.length + x.dat.his.length + x.dat.ehs.length + x.dat.sus.length : Nat) : Int) by rw [k'1a (by omega) (by omega)]; omega]
 exact Z
theorem firstMe_calls (hB : BOk B) : k'1 (cx B) 12 [] [] (.d (.bool true)) [] := by
 have h1 := Me_Marshal_calls B ⟨[], [], [], 1, noIn, [], []⟩ _ 1 (by unfold big; decide) ⟨⟨by simp [noIn], by simp [noIn], by simp [noIn], by simp [noIn], by decide, by decide⟩, by simp⟩ (Me.d_R _) (by omega) (by omega)
 rw [if_pos (show Me.may ⟨[], [], [], 1, noIn, [], []⟩ 1 = true by rfl), show Me.mar ⟨[], [], [], 1, noIn, [], []⟩ = [42, 0] by rfl] at h1
 have h2 := Me_some B hB (s := [58, 4, 16, 2, 24, 1]) (d := 1) (x := ⟨[], [], [], 2, ⟨[], [], [], [], 2, true, []⟩, [], []⟩) (by unfold big; decide) (by omega) (by omega) (by rfl)
 have h3 := Points_calls B ⟨[], [], [], 2, ⟨[], [], [], [], 2, true, []⟩, [], []⟩ _ (by decide) (Me.d_R _)
 refine k'2 (X := cx B) (fn := Tryz.f12) Tryz.func12 rfl rfl rfl rfl rfl 0 [] rfl rfl ?_
 refine Y ?_
 refine l_cw [] (h1) rfl rfl rfl ?_
 refine l_cw [] (h2) rfl rfl rfl ?_
 refine k'a [] (h3) rfl rfl rfl rfl rfl ?_
 exact Z
