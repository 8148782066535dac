/- Arguments: Exp. -/
import Derived.Test.YtmnllpkbjkenfaaGreatDoorNO
import Derived.Test.YtmnllpkbjkenfaaGreatDoorQV
import Derived.Deep.Strs
import Derived.ChangeSlices
import Derived.ChangeArms
set_option linter.unusedSimpArgs false
set_option linter.unusedVariables false
set_option maxRecDepth 100000
namespace Go.Proofs.YtmnllpkbjkenfaaGreatDoor
open Go Go.Abs Go.ChangeShapes Go.WideShapes Go.RowKit
section
variable {H : Type} {enc : TypeId × Value → H} {W : World}
theorem open_cEh (fuel : Nat) : ∀ cs x, DataW.trod enc Tryz.prog W 0 (fun _ => true) true fuel 92 cs = some x → ∃ (v : Eh) (xd : D), v.R xd ∧ (v.ln ∧ v.wf) ∧ DRs (Fw W) xd.cells cs := by
 intro cs x h
 have hu : Tryz.prog.underlying 92 = some (.struct #[stF 92 0, stF 92 1, stF 92 2, stF 92 3, stF 92 4, stF 92 5, stF 92 6, stF 92 7, stF 92 8, stF 92 9, stF 92 10, stF 92 11, stF 92 12, stF 92 13, stF 92 14, stF 92 15, stF 92 16]) := by kernel_rfl
 obtain ⟨ys, m, rfl, -, hl, hlen, hf⟩ := DataW.trod_struct hu h
 rw [show Tryz.prog.cellsOf 92 = 24 by kernel_rfl] at hl
 obtain ⟨v0, v1, v2, v3, v4, v5, v6, v7, v8, v9, v10, v11, v12, v13, v14, v15, v16, v17, v18, v19, v20, v21, v22, v23, rfl⟩ : ∃ v0 v1 v2 v3 v4 v5 v6 v7 v8 v9 v10 v11 v12 v13 v14 v15 v16 v17 v18 v19 v20 v21 v22 v23, cs = [v0, v1, v2, v3, v4, v5, v6, v7, v8, v9, v10, v11, v12, v13, v14, v15, v16, v17, v18, v19, v20, v21, v22, v23] := by
  match cs, hl with
  | [v0, v1, v2, v3, v4, v5, v6, v7, v8, v9, v10, v11, v12, v13, v14, v15, v16, v17, v18, v19, v20, v21, v22, v23], _ => exact ⟨_, _, _, _, _, _, _, _, _, _, _, _, _, _, _, _, _, _, _, _, _, _, _, _, rfl⟩
 obtain ⟨y0, f0⟩ := fld hlen hf 0 rfl (X := 27) (off := 0) (c := 1) (by kernel_rfl)
 obtain ⟨k0, z0, e0, x0, a0, r0, p0, l0, q0⟩ := k'f (by kernel_rfl) (show Tryz.prog.cellsOf 70 = 11 by kernel_rfl) (by omega) f0 (fun n _ => (open_vk n).2)
 obtain rfl : v0 = k0 := (List.cons.inj a0).1
 obtain ⟨n1, a1, hi1⟩ := k'1q hlen hf 1 rfl (X := 51) (off := 1) (c := 1) (by kernel_rfl) (by kernel_rfl)
 obtain rfl : v1 = .int .u64 n1 := (List.cons.inj a1).1
 obtain ⟨n2, a2, hi2⟩ := k'1q hlen hf 2 rfl (X := 51) (off := 2) (c := 1) (by kernel_rfl) (by kernel_rfl)
 obtain rfl : v2 = .int .u64 n2 := (List.cons.inj a2).1
 obtain ⟨n3, a3, hi3⟩ := k'1q hlen hf 3 rfl (X := 51) (off := 3) (c := 1) (by kernel_rfl) (by kernel_rfl)
 obtain rfl : v3 = .int .u64 n3 := (List.cons.inj a3).1
 obtain ⟨y4, f4⟩ := fld hlen hf 4 rfl (X := 84) (off := 4) (c := 2) (by kernel_rfl)
 replace f4 : DataW.trod enc Tryz.prog W 0 (fun _ => true) true m 84 [v4, v5] = some y4 := f4
 obtain ⟨e4, x4, r4, p4, q4⟩ := open_opt f4
 obtain ⟨y5, f5⟩ := fld hlen hf 5 rfl (X := 84) (off := 6) (c := 2) (by kernel_rfl)
 replace f5 : DataW.trod enc Tryz.prog W 0 (fun _ => true) true m 84 [v6, v7] = some y5 := f5
 obtain ⟨e5, x5, r5, p5, q5⟩ := open_opt f5
 obtain ⟨y6, f6⟩ := fld hlen hf 6 rfl (X := 84) (off := 8) (c := 2) (by kernel_rfl)
 replace f6 : DataW.trod enc Tryz.prog W 0 (fun _ => true) true m 84 [v8, v9] = some y6 := f6
 obtain ⟨e6, x6, r6, p6, q6⟩ := open_opt f6
 obtain ⟨n7, a7, lo7, hi7⟩ := fld_i32 hlen hf 7 rfl (X := 21) (off := 10) (c := 1) (by kernel_rfl) (by kernel_rfl)
 obtain rfl : v10 = .int .i32 n7 := (List.cons.inj a7).1
 obtain ⟨n8, a8, hi8⟩ := k'1q hlen hf 8 rfl (X := 51) (off := 11) (c := 1) (by kernel_rfl) (by kernel_rfl)
 obtain rfl : v11 = .int .u64 n8 := (List.cons.inj a8).1
 obtain ⟨b9, a9⟩ := fld_bool hlen hf 9 rfl (X := 4) (off := 12) (c := 1) (by kernel_rfl) (by kernel_rfl)
 obtain rfl : v12 = .bool b9 := (List.cons.inj a9).1
 obtain ⟨y10, f10⟩ := fld hlen hf 10 rfl (X := 90) (off := 13) (c := 3) (by kernel_rfl)
 replace f10 : DataW.trod enc Tryz.prog W 0 (fun _ => true) true m 90 [v13, v14, v15] = some y10 := f10
 obtain ⟨e10, x10, r10, p10, q10⟩ := open_bk f10
 obtain ⟨b11, a11⟩ := fld_bool hlen hf 11 rfl (X := 4) (off := 16) (c := 1) (by kernel_rfl) (by kernel_rfl)
 obtain rfl : v16 = .bool b11 := (List.cons.inj a11).1
 obtain ⟨y12, f12⟩ := fld hlen hf 12 rfl (X := 90) (off := 17) (c := 3) (by kernel_rfl)
 replace f12 : DataW.trod enc Tryz.prog W 0 (fun _ => true) true m 90 [v17, v18, v19] = some y12 := f12
 obtain ⟨e12, x12, r12, p12, q12⟩ := open_bk f12
 obtain ⟨y13, f13⟩ := fld hlen hf 13 rfl (X := 78) (off := 20) (c := 1) (by kernel_rfl)
 obtain ⟨k13, z13, e13, x13, a13, r13, p13, l13, q13⟩ := k'f (by kernel_rfl) (show Tryz.prog.cellsOf 241 = 7 by kernel_rfl) (by omega) f13 (fun n _ => open_cEm n)
 obtain rfl : v20 = k13 := (List.cons.inj a13).1
 obtain ⟨n14, a14, hi14⟩ := fld_u32 hlen hf 14 rfl (X := 79) (off := 21) (c := 1) (by kernel_rfl) (by kernel_rfl)
 obtain rfl : v21 = .int .u32 n14 := (List.cons.inj a14).1
 obtain ⟨n15, a15, hi15⟩ := k'1q hlen hf 15 rfl (X := 51) (off := 22) (c := 1) (by kernel_rfl) (by kernel_rfl)
 obtain rfl : v22 = .int .u64 n15 := (List.cons.inj a15).1
 obtain ⟨s16, a16, l16⟩ := k'1w hlen hf 16 rfl (X := 9) (off := 23) (c := 1) (by kernel_rfl) (by kernel_rfl)
 obtain rfl : v23 = .string s16 := (List.cons.inj a16).1
 subst r4
 subst r5
 subst r6
 obtain ⟨z10, rfl⟩ := r10
 obtain ⟨z12, rfl⟩ := r12
 exact ⟨⟨e0, n1, n2, n3, e4.1, e4.2, e5.1, e5.2, e6.1, e6.2, n7, n8, b9, e10, b11, e12, e13, n14, n15, s16.data.toList⟩, .agg _, ⟨z0, x0, z10, z12, z13, x13, rfl, Kv.Rs_of r0, r13⟩, ⟨⟨Kv.lns_of fun v hv => (p0 v hv).1, l0, p10.1, p12.1, fun v hv => (p13 v hv).1, l13, l16⟩, ⟨fun v hv => (p0 v hv).2, by show n1 < 2 ^ 64; omega, by show n2 < 2 ^ 64; omega, by show n3 < 2 ^ 64; omega, p4, p5, p6, ⟨lo7, by omega⟩, by show n8 < 2 ^ 64; omega, p10.2, p12.2, fun v hv => (p13 v hv).2, by show n14 < 4294967296; omega, by show n15 < 2 ^ 64; omega⟩⟩, .cons (q0) (.cons (.int ..) (.cons (.int ..) (.cons (.int ..) (k'4m q4 (k'4m q5 (k'4m q6 (.cons (.int ..) (.cons (.int ..) (.cons (.bool _) (k'4m q10 (.cons (.bool _) (k'4m q12 (.cons (q13) (.cons (.int ..) (.cons (.int ..) (.cons (k'39 _) .nil))))))))))))))))⟩
end
