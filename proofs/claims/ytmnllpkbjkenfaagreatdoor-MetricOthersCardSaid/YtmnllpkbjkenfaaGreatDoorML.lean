/- Metrics: read, with more behind; read, and called so. -/
import Derived.Test.YtmnllpkbjkenfaaGreatDoorMU
import Derived.Test.YtmnllpkbjkenfaaGreatDoorX29
import Derived.Test.YtmnllpkbjkenfaaGreatDoorR5
set_option linter.unusedSimpArgs false
set_option linter.unusedVariables false
set_option maxRecDepth 100000
namespace Go.Proofs.YtmnllpkbjkenfaaGreatDoor
open Go Go.Abs
variable (B : Fr)
def Me.setU (x : Me) (u : List UInt8) : Me := { x with u := u }
theorem Me.takes : Takes tellMe Me.setU Me.u := by
 intro d l f h u
 unfold tellMe at h
 split at h
 ·simp at h
 split at h
 ·simp at h
 split at h
 ·simp at h
 split at h
 ·simp at h
 split at h
 ·simp at h
 injection h with h
 subst h
 exact ⟨rfl, fun v => rfl⟩
variable {s w t : List UInt8} {d : Int} {x y : Me}
theorem okMe_right (hw : mayU tbM w d = true) (h : okMe s d = some x) : okMe (s ++ w) d = some (x.setU (x.u ++ w)) := apO_right Me.takes hw h
theorem okMe_left (hw : mayU tbM w d = true) (h : okMe s d = some x) : okMe (w ++ s) d = some (x.setU (w ++ x.u)) := apO_left Me.takes hw h
theorem okMe_left_none (hw : 0 ≤ d → mayU tbM w d = true) (h : okMe s d = none) : okMe (w ++ s) d = none := apO_left_none hw h
theorem okMe_pos (h : okMe s d = some x) : 0 ≤ d := apO_pos h
theorem okMe_bad {e : Er} (h : okMe s d = some x) (ht : all t d = .error e) : okMe (s ++ t) d = none ∧ readE (s ++ t) d = some (e.sh s.length) := apO_bad h ht
theorem Me_some (hB : BOk B) (hl : s.length < big) (hd1 : -9223372036854775808 ≤ d) (hd2 : d < 9223372036854775808) (h : okMe s d = some x) : CallsA (cx B) 13 [sT s, .d (.int .i64 d)] [] (.tup [.d x.d, .d .nili]) [] := by
 have := (Me_read B hB s d hl hd1 hd2).1
 rw [h] at this; exact this
theorem Me_noneE (hB : BOk B) (hl : s.length < big) (hd1 : -9223372036854775808 ≤ d) (hd2 : d < 9223372036854775808) (h : okMe s d = none) : ∃ e : Er, EIn s.length e ∧ CallsA (cx B) 13 [sT s, .d (.int .i64 d)] [] (.tup [.d noMe.d, .d e.d]) [] := by
 have := (Me_read B hB s d hl hd1 hd2).1
 rw [h] at this; exact this
theorem Me_none (hB : BOk B) (hl : s.length < big) (hd1 : -9223372036854775808 ≤ d) (hd2 : d < 9223372036854775808) (h : okMe s d = none) : ∃ T x, CallsA (cx B) 13 [sT s, .d (.int .i64 d)] [] (.tup [.d noMe.d, .d (.iface T x)]) [] := by
 obtain ⟨e, -, h1⟩ := Me_noneE B hB hl hd1 hd2 h
 obtain ⟨T, x, hx⟩ := er_iface e
 rw [hx] at h1
 exact ⟨T, x, h1⟩
theorem Me_err (hB : BOk B) {e : Er} (hl : s.length < big) (hd1 : -9223372036854775808 ≤ d) (hd2 : d < 9223372036854775808) (h : readE s d = some e) : CallsA (cx B) 13 [sT s, .d (.int .i64 d)] [] (.tup [.d noMe.d, .d e.d]) [] := (Me_read B hB s d hl hd1 hd2).2 e h
theorem tbM_5 (n : Nat) : tbM n 5 = false := by simp [tbM, Bool.cond_eq_ite]
theorem tbM_x : tbM 536870911 1 = false := by rfl
theorem tbM_90 : tbM 90 3 = false := by rfl
theorem okMe_len {s : List UInt8} {d : Int} {x : Me} (h : okMe s d = some x) : x.u.length ≤ 1800 + 1800 * s.length := by
 have := (Me_told _ _ _ h).2.2
 unfold Me.sz at this; omega
def Me.points (x : Me) : Nat := x.dat.nbs.length + x.dat.his.length + x.dat.ehs.length + x.dat.sus.length
theorem Points_calls (x : Me) (xa : D) (hb : x.points < 4611686018427387904) (hx : x.R xa) : CallsA (cx B) 14 [.d xa] [] (iT x.points) [] := by
 obtain ⟨z_nbs, l_nbs, z_his, l_his, z_ehs, l_ehs, z_sus, l_sus, z_mets, l_mets, rfl, r_nbs, r_his, r_ehs, r_sus, r_mets⟩ := hx
 unfold Me.points at hb ⊢
 refine k'2 (X := cx B) (fn := Tryz.f14) Tryz.func14 rfl rfl rfl rfl rfl 0 [] rfl rfl ?_
 refine walk ?_
 rw [r_nbs.1, r_his.1, r_ehs.1, r_sus.1]
 rw [show IntKind.i64.wrap ((x.dat.nbs.length : Int) + (x.dat.his.length : Int)) = ((x.dat.nbs.length + x.dat.his.length : Nat) : Int) by rw [wrapI (by omega) (by omega)]; omega]
 rw [show IntKind.i64.wrap (((x.dat.nbs.length + x.dat.his.length : Nat) : Int) + (x.dat.ehs.length : Int)) = ((x.dat.nbs.length + x.dat.his.length + x.dat.ehs.length : Nat) : Int) by rw [wrapI (by omega) (by omega)]; omega]
 rw [show IntKind.i64.wrap (((x.dat.nbs.length + x.dat.his.length + x.dat.ehs.length : Nat) : Int) + (x.dat.sus.length : Int)) = ((x.dat.nbs.length + x.dat.his.length + x.dat.ehs.length + x.dat.sus.length : Nat) : Int) by rw [wrapI (by omega) (by omega)]; omega]
 refine walk ?_
 exact k'3 trivial (by decide) rfl rfl rfl rfl rfl
theorem firstMe_calls (hB : BOk B) : CallsA (cx B) 12 [] [] (.d (.bool true)) [] := by
 have h1 := Me_Marshal_calls B ⟨[], [], [], 1, noIn, [], []⟩ _ 1 (by unfold big; decide) ⟨⟨by simp [noIn], by simp [noIn], by simp [noIn], by simp [noIn], by decide, by decide⟩, by simp⟩ (Me.d_R _) (by omega) (by omega)
 rw [if_pos (show Me.may ⟨[], [], [], 1, noIn, [], []⟩ 1 = true by rfl), show Me.mar ⟨[], [], [], 1, noIn, [], []⟩ = [42, 0] by rfl] at h1
 have h2 := Me_some B hB (s := [58, 4, 16, 2, 24, 1]) (d := 1) (x := ⟨[], [], [], 2, ⟨[], [], [], [], 2, true, []⟩, [], []⟩) (by unfold big; decide) (by omega) (by omega) (by rfl)
 have h3 := Points_calls B ⟨[], [], [], 2, ⟨[], [], [], [], 2, true, []⟩, [], []⟩ _ (by decide) (Me.d_R _)
 refine k'2 (X := cx B) (fn := Tryz.f12) Tryz.func12 rfl rfl rfl rfl rfl 0 [] rfl rfl ?_
 refine walk ?_
 refine k'1 [] (h1) rfl rfl rfl rfl rfl rfl rfl (by decide) rfl rfl rfl rfl rfl ?_
 refine walk ?_
 refine k'1 [] (h2) rfl rfl rfl rfl rfl rfl rfl (by decide) rfl rfl rfl rfl rfl ?_
 refine walk ?_
 refine k'6 [] (h3) rfl rfl rfl rfl rfl rfl rfl rfl rfl (by decide) rfl rfl rfl rfl rfl ?_
 refine walk ?_
 exact k'3 trivial (by decide) rfl rfl rfl rfl rfl
end Go.Proofs.YtmnllpkbjkenfaaGreatDoor
