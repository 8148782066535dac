/- Arguments: Exemplar. -/
import Derived.Test.YtmnllpkbjkenfaaGreatDoorXN
import Derived.Test.YtmnllpkbjkenfaaGreatDoorEV
import Derived.Deep.Strs
import Derived.ChangeSlices
import Derived.ChangeArms
import Derived.Test.YtmnllpkbjkenfaaGreatDoorNV
set_option linter.unusedSimpArgs false
set_option linter.unusedVariables false
set_option maxRecDepth 100000
namespace Go.Proofs.YtmnllpkbjkenfaaGreatDoor
open Go Go.Abs
section
open Go Go.Abs Go.ChangeShapes Go.WideShapes Go.RowKit
section
variable {H : Type} {enc : TypeId × Value → H} {W : World}
theorem open_cEm (fuel : Nat) : ∀ cs x, DataW.trod enc Tryz.prog W 0 (fun _ => true) true fuel 241 cs = some x → ∃ (v : Em) (xd : D), v.R xd ∧ (v.ln ∧ v.wf) ∧ DRs (Fw W) xd.cells cs := by
 intro cs x h
 have hu : Tryz.prog.underlying 241 = some (.struct #[stF 241 0, stF 241 1, stF 241 2, stF 241 3, stF 241 4, stF 241 5, stF 241 6]) := by kernel_rfl
 obtain ⟨ys, m, rfl, -, hl, hlen, hf⟩ := DataW.trod_struct hu h
 rw [show Tryz.prog.cellsOf 241 = 7 by kernel_rfl] at hl
 obtain ⟨v0, v1, v2, v3, v4, v5, v6, rfl⟩ : ∃ v0 v1 v2 v3 v4 v5 v6, cs = [v0, v1, v2, v3, v4, v5, v6] := by
  match cs, hl with
  | [v0, v1, v2, v3, v4, v5, v6], _ => exact ⟨_, _, _, _, _, _, _, rfl⟩
 obtain ⟨y0, f0⟩ := fld hlen hf 0 rfl (X := 27) (off := 0) (c := 1) (by kernel_rfl)
 obtain ⟨k0, z0, e0, x0, a0, r0, p0, l0, q0⟩ := k'f (by kernel_rfl) (show Tryz.prog.cellsOf 70 = 11 by kernel_rfl) (by omega) f0 (fun n _ => (open_vk n).2)
 obtain rfl : v0 = k0 := (List.cons.inj a0).1
 obtain ⟨n1, a1, hi1⟩ := k'1q hlen hf 1 rfl (X := 51) (off := 1) (c := 1) (by kernel_rfl) (by kernel_rfl)
 obtain rfl : v1 = .int .u64 n1 := (List.cons.inj a1).1
 obtain ⟨n2, a2, lo2, hi2⟩ := fld_i64 hlen hf 2 rfl (X := 3) (off := 2) (c := 1) (by kernel_rfl) (by kernel_rfl)
 obtain rfl : v2 = .int .i64 n2 := (List.cons.inj a2).1
 obtain ⟨n3, a3, hi3⟩ := k'1q hlen hf 3 rfl (X := 51) (off := 3) (c := 1) (by kernel_rfl) (by kernel_rfl)
 obtain rfl : v3 = .int .u64 n3 := (List.cons.inj a3).1
 obtain ⟨s4, a4, l4⟩ := k'1w hlen hf 4 rfl (X := 9) (off := 4) (c := 1) (by kernel_rfl) (by kernel_rfl)
 obtain rfl : v4 = .string s4 := (List.cons.inj a4).1
 obtain ⟨s5, a5, l5⟩ := k'1w hlen hf 5 rfl (X := 9) (off := 5) (c := 1) (by kernel_rfl) (by kernel_rfl)
 obtain rfl : v5 = .string s5 := (List.cons.inj a5).1
 obtain ⟨s6, a6, l6⟩ := k'1w hlen hf 6 rfl (X := 9) (off := 6) (c := 1) (by kernel_rfl) (by kernel_rfl)
 obtain rfl : v6 = .string s6 := (List.cons.inj a6).1
 exact ⟨⟨e0, n1, n2, n3, s4.data.toList, s5.data.toList, s6.data.toList⟩, .agg _, ⟨z0, x0, rfl, Kv.Rs_of r0⟩, ⟨⟨Kv.lns_of fun v hv => (p0 v hv).1, l0, l4, l5, l6⟩, ⟨fun v hv => (p0 v hv).2, by show n1 < 2 ^ 64; omega, by show n3 < 2 ^ 64; omega⟩⟩, .cons (q0) (.cons (.int ..) (.cons (.int ..) (.cons (.int ..) (.cons (k'39 _) (.cons (k'39 _) (.cons (k'39 _) .nil))))))⟩
end
end
section
open Go Go.Abs Go.ChangeShapes Go.WideShapes Go.RowKit
section
variable {H : Type} {enc : TypeId × Value → H} {W : World}
theorem open_cNb (fuel : Nat) : ∀ cs x, DataW.trod enc Tryz.prog W 0 (fun _ => true) true fuel 81 cs = some x → ∃ (v : Nb) (xd : D), v.R xd ∧ (v.ln ∧ v.wf) ∧ DRs (Fw W) xd.cells cs := by
 intro cs x h
 have hu : Tryz.prog.underlying 81 = some (.struct #[stF 81 0, stF 81 1, stF 81 2, stF 81 3, stF 81 4, stF 81 5, stF 81 6, stF 81 7]) := by kernel_rfl
 obtain ⟨ys, m, rfl, -, hl, hlen, hf⟩ := DataW.trod_struct hu h
 rw [show Tryz.prog.cellsOf 81 = 8 by kernel_rfl] at hl
 obtain ⟨v0, v1, v2, v3, v4, v5, v6, v7, rfl⟩ : ∃ v0 v1 v2 v3 v4 v5 v6 v7, cs = [v0, v1, v2, v3, v4, v5, v6, v7] := by
  match cs, hl with
  | [v0, v1, v2, v3, v4, v5, v6, v7], _ => exact ⟨_, _, _, _, _, _, _, _, rfl⟩
 obtain ⟨y0, f0⟩ := fld hlen hf 0 rfl (X := 27) (off := 0) (c := 1) (by kernel_rfl)
 obtain ⟨k0, z0, e0, x0, a0, r0, p0, l0, q0⟩ := k'f (by kernel_rfl) (show Tryz.prog.cellsOf 70 = 11 by kernel_rfl) (by omega) f0 (fun n _ => (open_vk n).2)
 obtain rfl : v0 = k0 := (List.cons.inj a0).1
 obtain ⟨n1, a1, hi1⟩ := k'1q hlen hf 1 rfl (X := 51) (off := 1) (c := 1) (by kernel_rfl) (by kernel_rfl)
 obtain rfl : v1 = .int .u64 n1 := (List.cons.inj a1).1
 obtain ⟨n2, a2, hi2⟩ := k'1q hlen hf 2 rfl (X := 51) (off := 2) (c := 1) (by kernel_rfl) (by kernel_rfl)
 obtain rfl : v2 = .int .u64 n2 := (List.cons.inj a2).1
 obtain ⟨n3, a3, lo3, hi3⟩ := fld_i64 hlen hf 3 rfl (X := 3) (off := 3) (c := 1) (by kernel_rfl) (by kernel_rfl)
 obtain rfl : v3 = .int .i64 n3 := (List.cons.inj a3).1
 obtain ⟨n4, a4, hi4⟩ := k'1q hlen hf 4 rfl (X := 51) (off := 4) (c := 1) (by kernel_rfl) (by kernel_rfl)
 obtain rfl : v4 = .int .u64 n4 := (List.cons.inj a4).1
 obtain ⟨y5, f5⟩ := fld hlen hf 5 rfl (X := 78) (off := 5) (c := 1) (by kernel_rfl)
 obtain ⟨k5, z5, e5, x5, a5, r5, p5, l5, q5⟩ := k'f (by kernel_rfl) (show Tryz.prog.cellsOf 241 = 7 by kernel_rfl) (by omega) f5 (fun n _ => open_cEm n)
 obtain rfl : v5 = k5 := (List.cons.inj a5).1
 obtain ⟨n6, a6, hi6⟩ := fld_u32 hlen hf 6 rfl (X := 79) (off := 6) (c := 1) (by kernel_rfl) (by kernel_rfl)
 obtain rfl : v6 = .int .u32 n6 := (List.cons.inj a6).1
 obtain ⟨s7, a7, l7⟩ := k'1w hlen hf 7 rfl (X := 9) (off := 7) (c := 1) (by kernel_rfl) (by kernel_rfl)
 obtain rfl : v7 = .string s7 := (List.cons.inj a7).1
 exact ⟨⟨e0, n1, n2, n3, n4, e5, n6, s7.data.toList⟩, .agg _, ⟨z0, x0, z5, x5, rfl, Kv.Rs_of r0, r5⟩, ⟨⟨Kv.lns_of fun v hv => (p0 v hv).1, l0, fun v hv => (p5 v hv).1, l5, l7⟩, ⟨fun v hv => (p0 v hv).2, by show n1 < 2 ^ 64; omega, by show n2 < 2 ^ 64; omega, by show n4 < 2 ^ 64; omega, fun v hv => (p5 v hv).2, by show n6 < 4294967296; omega⟩⟩, .cons (q0) (.cons (.int ..) (.cons (.int ..) (.cons (.int ..) (.cons (.int ..) (.cons (q5) (.cons (.int ..) (.cons (k'39 _) .nil)))))))⟩
end
end
