/- Arguments: Hist. -/
import Derived.Test.YtmnllpkbjkenfaaGreatDoorNO
import Derived.Test.YtmnllpkbjkenfaaGreatDoorHV
import Derived.Deep.Strs
import Derived.ChangeSlices
import Derived.ChangeArms
set_option linter.unusedSimpArgs false
set_option linter.unusedVariables false
set_option maxRecDepth 100000
namespace Go.Proofs.YtmnllpkbjkenfaaGreatDoor
open Go Go.Abs Go.ChangeShapes Go.WideShapes Go.RowKit
section
variable {H : Type} {enc : TypeId × Value → H} {W : World}
theorem open_cHi (fuel : Nat) : ∀ cs x, DataW.trod enc Tryz.prog W 0 (fun _ => true) true fuel 87 cs = some x → ∃ (v : Hi) (xd : D), v.R xd ∧ (v.ln ∧ v.wf) ∧ DRs (Fw W) xd.cells cs := by
 intro cs x h
 have hu : Tryz.prog.underlying 87 = some (.struct #[stF 87 0, stF 87 1, stF 87 2, stF 87 3, stF 87 4, stF 87 5, stF 87 6, stF 87 7, stF 87 8, stF 87 9, stF 87 10, stF 87 11]) := by kernel_rfl
 obtain ⟨ys, m, rfl, -, hl, hlen, hf⟩ := DataW.trod_struct hu h
 rw [show Tryz.prog.cellsOf 87 = 15 by kernel_rfl] at hl
 obtain ⟨v0, v1, v2, v3, v4, v5, v6, v7, v8, v9, v10, v11, v12, v13, v14, rfl⟩ : ∃ v0 v1 v2 v3 v4 v5 v6 v7 v8 v9 v10 v11 v12 v13 v14, cs = [v0, v1, v2, v3, v4, v5, v6, v7, v8, v9, v10, v11, v12, v13, v14] := by
  match cs, hl with
  | [v0, v1, v2, v3, v4, v5, v6, v7, v8, v9, v10, v11, v12, v13, v14], _ => exact ⟨_, _, _, _, _, _, _, _, _, _, _, _, _, _, _, rfl⟩
 obtain ⟨y0, f0⟩ := fld hlen hf 0 rfl (X := 27) (off := 0) (c := 1) (by kernel_rfl)
 obtain ⟨k0, z0, e0, x0, a0, r0, p0, l0, q0⟩ := k'f (by kernel_rfl) (show Tryz.prog.cellsOf 70 = 11 by kernel_rfl) (by omega) f0 (fun n _ => (open_vk n).2)
 obtain rfl : v0 = k0 := (List.cons.inj a0).1
 obtain ⟨n1, a1, hi1⟩ := k'1q hlen hf 1 rfl (X := 51) (off := 1) (c := 1) (by kernel_rfl) (by kernel_rfl)
 obtain rfl : v1 = .int .u64 n1 := (List.cons.inj a1).1
 obtain ⟨n2, a2, hi2⟩ := k'1q hlen hf 2 rfl (X := 51) (off := 2) (c := 1) (by kernel_rfl) (by kernel_rfl)
 obtain rfl : v2 = .int .u64 n2 := (List.cons.inj a2).1
 obtain ⟨n3, a3, hi3⟩ := k'1q hlen hf 3 rfl (X := 51) (off := 3) (c := 1) (by kernel_rfl) (by kernel_rfl)
 obtain rfl : v3 = .int .u64 n3 := (List.cons.inj a3).1
 obtain ⟨y4, f4⟩ := fld hlen hf 4 rfl (X := 84) (off := 4) (c := 2) (by kernel_rfl)
 replace f4 : DataW.trod enc Tryz.prog W 0 (fun _ => true) true m 84 [v4, v5] = some y4 := f4
 obtain ⟨e4, x4, r4, p4, q4⟩ := open_opt f4
 obtain ⟨y5, f5⟩ := fld hlen hf 5 rfl (X := 84) (off := 6) (c := 2) (by kernel_rfl)
 replace f5 : DataW.trod enc Tryz.prog W 0 (fun _ => true) true m 84 [v6, v7] = some y5 := f5
 obtain ⟨e5, x5, r5, p5, q5⟩ := open_opt f5
 obtain ⟨y6, f6⟩ := fld hlen hf 6 rfl (X := 84) (off := 8) (c := 2) (by kernel_rfl)
 replace f6 : DataW.trod enc Tryz.prog W 0 (fun _ => true) true m 84 [v8, v9] = some y6 := f6
 obtain ⟨e6, x6, r6, p6, q6⟩ := open_opt f6
 obtain ⟨y7, f7⟩ := fld hlen hf 7 rfl (X := 85) (off := 10) (c := 1) (by kernel_rfl)
 obtain ⟨k7, z7, e7, x7, a7, r7, p7, l7, q7⟩ := k'f (by kernel_rfl) (show Tryz.prog.cellsOf 51 = 1 by kernel_rfl) (by omega) f7 (fun n _ => open_u64 n)
 obtain rfl : v10 = k7 := (List.cons.inj a7).1
 obtain ⟨y8, f8⟩ := fld hlen hf 8 rfl (X := 85) (off := 11) (c := 1) (by kernel_rfl)
 obtain ⟨k8, z8, e8, x8, a8, r8, p8, l8, q8⟩ := k'f (by kernel_rfl) (show Tryz.prog.cellsOf 51 = 1 by kernel_rfl) (by omega) f8 (fun n _ => open_u64 n)
 obtain rfl : v11 = k8 := (List.cons.inj a8).1
 obtain ⟨y9, f9⟩ := fld hlen hf 9 rfl (X := 78) (off := 12) (c := 1) (by kernel_rfl)
 obtain ⟨k9, z9, e9, x9, a9, r9, p9, l9, q9⟩ := k'f (by kernel_rfl) (show Tryz.prog.cellsOf 241 = 7 by kernel_rfl) (by omega) f9 (fun n _ => open_cEm n)
 obtain rfl : v12 = k9 := (List.cons.inj a9).1
 obtain ⟨n10, a10, hi10⟩ := fld_u32 hlen hf 10 rfl (X := 79) (off := 13) (c := 1) (by kernel_rfl) (by kernel_rfl)
 obtain rfl : v13 = .int .u32 n10 := (List.cons.inj a10).1
 obtain ⟨s11, a11, l11⟩ := k'1w hlen hf 11 rfl (X := 9) (off := 14) (c := 1) (by kernel_rfl) (by kernel_rfl)
 obtain rfl : v14 = .string s11 := (List.cons.inj a11).1
 subst r4
 subst r5
 subst r6
 obtain rfl := u_of r7
 obtain rfl := u_of r8
 exact ⟨⟨e0, n1, n2, n3, e4.1, e4.2, e5.1, e5.2, e6.1, e6.2, e7, e8, e9, n10, s11.data.toList⟩, .agg _, ⟨z0, x0, z7, z8, z9, x9, rfl, Kv.Rs_of r0, r9⟩, ⟨⟨Kv.lns_of fun v hv => (p0 v hv).1, l0, l7, l8, fun v hv => (p9 v hv).1, l9, l11⟩, ⟨fun v hv => (p0 v hv).2, by show n1 < 2 ^ 64; omega, by show n2 < 2 ^ 64; omega, by show n3 < 2 ^ 64; omega, p4, p5, p6, p7, p8, fun v hv => (p9 v hv).2, by show n10 < 4294967296; omega⟩⟩, .cons (q0) (.cons (.int ..) (.cons (.int ..) (.cons (.int ..) (k'4m q4 (k'4m q5 (k'4m q6 (.cons (q7) (.cons (q8) (.cons (q9) (.cons (.int ..) (.cons (k'39 _) .nil)))))))))))⟩
end
