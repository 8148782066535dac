/- Arguments: Exemplar. -/
import Derived.Test.YtnaojdjhjkendaaGreatDoorXN
import Derived.Test.YtnaojdjhjkendaaGreatDoorQV
import Derived.Deep.Strs
import Derived.ChangeSlices
import Derived.ChangeArms
import Derived.Test.YtnaojdjhjkendaaGreatDoorMV
set_option linter.unusedSimpArgs false
set_option linter.unusedVariables false
set_option maxRecDepth 100000
namespace Go.Proofs.YtnaojdjhjkendaaGreatDoor
open Go Go.Abs
section
open Go Go.Abs Go.ChangeShapes Go.WideShapes Go.RowKit
section
variable {H : Type} {enc : TypeId × Value → H} {W : World}
theorem open_cEm (fuel : Nat) : ∀ cs x, DataW.trod enc Tryz.prog W 0 (fun _ => true) true fuel 239 cs = some x → ∃ (v : Em) (xd : D), v.R xd ∧ (v.ln ∧ v.wf) ∧ DRs (Fw W) xd.cells cs := by
 intro cs x h
 have hu : Tryz.prog.underlying 239 = some (.struct #[stF 239 0, stF 239 1, stF 239 2, stF 239 3, stF 239 4, stF 239 5, stF 239 6]) := by kernel_rfl
 obtain ⟨ys, m, rfl, -, hl, hlen, hf⟩ := DataW.trod_struct hu h
 rw [show Tryz.prog.cellsOf 239 = 7 by kernel_rfl] at hl
 obtain ⟨v0, v1, v2, v3, v4, v5, v6, rfl⟩ : ∃ v0 v1 v2 v3 v4 v5 v6, cs = [v0, v1, v2, v3, v4, v5, v6] := by
  match cs, hl with
  | [v0, v1, v2, v3, v4, v5, v6], _ => exact ⟨_, _, _, _, _, _, _, rfl⟩
 obtain ⟨y0, f0⟩ := fld hlen hf 0 rfl (X := 27) (off := 0) (c := 1) (by kernel_rfl)
 obtain ⟨k0, z0, e0, x0, a0, r0, p0, l0, q0⟩ := k'g (by kernel_rfl) (show Tryz.prog.cellsOf 64 = 11 by kernel_rfl) (by omega) f0 (fun n _ => (open_vk n).2)
 obtain rfl : v0 = k0 := (List.cons.inj a0).1
 obtain ⟨n1, a1, hi1⟩ := k'1l hlen hf 1 rfl (X := 50) (off := 1) (c := 1) (by kernel_rfl) (by kernel_rfl)
 obtain rfl : v1 = .int .u64 n1 := (List.cons.inj a1).1
 obtain ⟨n2, a2, lo2, hi2⟩ := fld_i64 hlen hf 2 rfl (X := 3) (off := 2) (c := 1) (by kernel_rfl) (by kernel_rfl)
 obtain rfl : v2 = .int .i64 n2 := (List.cons.inj a2).1
 obtain ⟨n3, a3, hi3⟩ := k'1l hlen hf 3 rfl (X := 50) (off := 3) (c := 1) (by kernel_rfl) (by kernel_rfl)
 obtain rfl : v3 = .int .u64 n3 := (List.cons.inj a3).1
 obtain ⟨s4, a4, l4⟩ := k'1t hlen hf 4 rfl (X := 9) (off := 4) (c := 1) (by kernel_rfl) (by kernel_rfl)
 obtain rfl : v4 = .string s4 := (List.cons.inj a4).1
 obtain ⟨s5, a5, l5⟩ := k'1t hlen hf 5 rfl (X := 9) (off := 5) (c := 1) (by kernel_rfl) (by kernel_rfl)
 obtain rfl : v5 = .string s5 := (List.cons.inj a5).1
 obtain ⟨s6, a6, l6⟩ := k'1t hlen hf 6 rfl (X := 9) (off := 6) (c := 1) (by kernel_rfl) (by kernel_rfl)
 obtain rfl : v6 = .string s6 := (List.cons.inj a6).1
 exact ⟨⟨e0, n1, n2, n3, s4.data.toList, s5.data.toList, s6.data.toList⟩, .agg _, ⟨z0, x0, rfl, Kv.Rs_of r0⟩, ⟨⟨Kv.lns_of fun v hv => (p0 v hv).1, l0, l4, l5, l6⟩, ⟨fun v hv => (p0 v hv).2, by show n1 < 2 ^ 64; omega, by show n3 < 2 ^ 64; omega⟩⟩, .cons (q0) (.cons (.int ..) (.cons (.int ..) (.cons (.int ..) (.cons (k'36 _) (.cons (k'36 _) (.cons (k'36 _) .nil))))))⟩
end
end
section
open Go Go.Abs Go.ChangeShapes Go.WideShapes Go.RowKit
section
variable {H : Type} {enc : TypeId × Value → H} {W : World}
theorem open_cNb (fuel : Nat) : ∀ cs x, DataW.trod enc Tryz.prog W 0 (fun _ => true) true fuel 88 cs = some x → ∃ (v : Nb) (xd : D), v.R xd ∧ (v.ln ∧ v.wf) ∧ DRs (Fw W) xd.cells cs := by
 intro cs x h
 have hu : Tryz.prog.underlying 88 = some (.struct #[stF 88 0, stF 88 1, stF 88 2, stF 88 3, stF 88 4, stF 88 5, stF 88 6, stF 88 7]) := by kernel_rfl
 obtain ⟨ys, m, rfl, -, hl, hlen, hf⟩ := DataW.trod_struct hu h
 rw [show Tryz.prog.cellsOf 88 = 8 by kernel_rfl] at hl
 obtain ⟨v0, v1, v2, v3, v4, v5, v6, v7, rfl⟩ : ∃ v0 v1 v2 v3 v4 v5 v6 v7, cs = [v0, v1, v2, v3, v4, v5, v6, v7] := by
  match cs, hl with
  | [v0, v1, v2, v3, v4, v5, v6, v7], _ => exact ⟨_, _, _, _, _, _, _, _, rfl⟩
 obtain ⟨y0, f0⟩ := fld hlen hf 0 rfl (X := 27) (off := 0) (c := 1) (by kernel_rfl)
 obtain ⟨k0, z0, e0, x0, a0, r0, p0, l0, q0⟩ := k'g (by kernel_rfl) (show Tryz.prog.cellsOf 64 = 11 by kernel_rfl) (by omega) f0 (fun n _ => (open_vk n).2)
 obtain rfl : v0 = k0 := (List.cons.inj a0).1
 obtain ⟨n1, a1, hi1⟩ := k'1l hlen hf 1 rfl (X := 50) (off := 1) (c := 1) (by kernel_rfl) (by kernel_rfl)
 obtain rfl : v1 = .int .u64 n1 := (List.cons.inj a1).1
 obtain ⟨n2, a2, hi2⟩ := k'1l hlen hf 2 rfl (X := 50) (off := 2) (c := 1) (by kernel_rfl) (by kernel_rfl)
 obtain rfl : v2 = .int .u64 n2 := (List.cons.inj a2).1
 obtain ⟨n3, a3, lo3, hi3⟩ := fld_i64 hlen hf 3 rfl (X := 3) (off := 3) (c := 1) (by kernel_rfl) (by kernel_rfl)
 obtain rfl : v3 = .int .i64 n3 := (List.cons.inj a3).1
 obtain ⟨n4, a4, hi4⟩ := k'1l hlen hf 4 rfl (X := 50) (off := 4) (c := 1) (by kernel_rfl) (by kernel_rfl)
 obtain rfl : v4 = .int .u64 n4 := (List.cons.inj a4).1
 obtain ⟨y5, f5⟩ := fld hlen hf 5 rfl (X := 85) (off := 5) (c := 1) (by kernel_rfl)
 obtain ⟨k5, z5, e5, x5, a5, r5, p5, l5, q5⟩ := k'g (by kernel_rfl) (show Tryz.prog.cellsOf 239 = 7 by kernel_rfl) (by omega) f5 (fun n _ => open_cEm n)
 obtain rfl : v5 = k5 := (List.cons.inj a5).1
 obtain ⟨n6, a6, hi6⟩ := fld_u32 hlen hf 6 rfl (X := 86) (off := 6) (c := 1) (by kernel_rfl) (by kernel_rfl)
 obtain rfl : v6 = .int .u32 n6 := (List.cons.inj a6).1
 obtain ⟨s7, a7, l7⟩ := k'1t hlen hf 7 rfl (X := 9) (off := 7) (c := 1) (by kernel_rfl) (by kernel_rfl)
 obtain rfl : v7 = .string s7 := (List.cons.inj a7).1
 exact ⟨⟨e0, n1, n2, n3, n4, e5, n6, s7.data.toList⟩, .agg _, ⟨z0, x0, z5, x5, rfl, Kv.Rs_of r0, r5⟩, ⟨⟨Kv.lns_of fun v hv => (p0 v hv).1, l0, fun v hv => (p5 v hv).1, l5, l7⟩, ⟨fun v hv => (p0 v hv).2, by show n1 < 2 ^ 64; omega, by show n2 < 2 ^ 64; omega, by show n4 < 2 ^ 64; omega, fun v hv => (p5 v hv).2, by show n6 < 4294967296; omega⟩⟩, .cons (q0) (.cons (.int ..) (.cons (.int ..) (.cons (.int ..) (.cons (.int ..) (.cons (q5) (.cons (.int ..) (.cons (k'36 _) .nil)))))))⟩
end
end
section
open Go Go.Abs Go.ChangeShapes Go.WideShapes Go.RowKit
section
variable {H : Type} {enc : TypeId × Value → H} {W : World}
theorem open_cHi (fuel : Nat) : ∀ cs x, DataW.trod enc Tryz.prog W 0 (fun _ => true) true fuel 94 cs = some x → ∃ (v : Hi) (xd : D), v.R xd ∧ (v.ln ∧ v.wf) ∧ DRs (Fw W) xd.cells cs := by
 intro cs x h
 have hu : Tryz.prog.underlying 94 = some (.struct #[stF 94 0, stF 94 1, stF 94 2, stF 94 3, stF 94 4, stF 94 5, stF 94 6, stF 94 7, stF 94 8, stF 94 9, stF 94 10, stF 94 11]) := by kernel_rfl
 obtain ⟨ys, m, rfl, -, hl, hlen, hf⟩ := DataW.trod_struct hu h
 rw [show Tryz.prog.cellsOf 94 = 15 by kernel_rfl] at hl
 obtain ⟨v0, v1, v2, v3, v4, v5, v6, v7, v8, v9, v10, v11, v12, v13, v14, rfl⟩ : ∃ v0 v1 v2 v3 v4 v5 v6 v7 v8 v9 v10 v11 v12 v13 v14, cs = [v0, v1, v2, v3, v4, v5, v6, v7, v8, v9, v10, v11, v12, v13, v14] := by
  match cs, hl with
  | [v0, v1, v2, v3, v4, v5, v6, v7, v8, v9, v10, v11, v12, v13, v14], _ => exact ⟨_, _, _, _, _, _, _, _, _, _, _, _, _, _, _, rfl⟩
 obtain ⟨y0, f0⟩ := fld hlen hf 0 rfl (X := 27) (off := 0) (c := 1) (by kernel_rfl)
 obtain ⟨k0, z0, e0, x0, a0, r0, p0, l0, q0⟩ := k'g (by kernel_rfl) (show Tryz.prog.cellsOf 64 = 11 by kernel_rfl) (by omega) f0 (fun n _ => (open_vk n).2)
 obtain rfl : v0 = k0 := (List.cons.inj a0).1
 obtain ⟨n1, a1, hi1⟩ := k'1l hlen hf 1 rfl (X := 50) (off := 1) (c := 1) (by kernel_rfl) (by kernel_rfl)
 obtain rfl : v1 = .int .u64 n1 := (List.cons.inj a1).1
 obtain ⟨n2, a2, hi2⟩ := k'1l hlen hf 2 rfl (X := 50) (off := 2) (c := 1) (by kernel_rfl) (by kernel_rfl)
 obtain rfl : v2 = .int .u64 n2 := (List.cons.inj a2).1
 obtain ⟨n3, a3, hi3⟩ := k'1l hlen hf 3 rfl (X := 50) (off := 3) (c := 1) (by kernel_rfl) (by kernel_rfl)
 obtain rfl : v3 = .int .u64 n3 := (List.cons.inj a3).1
 obtain ⟨y4, f4⟩ := fld hlen hf 4 rfl (X := 91) (off := 4) (c := 2) (by kernel_rfl)
 replace f4 : DataW.trod enc Tryz.prog W 0 (fun _ => true) true m 91 [v4, v5] = some y4 := f4
 obtain ⟨e4, x4, r4, p4, q4⟩ := open_opt f4
 obtain ⟨y5, f5⟩ := fld hlen hf 5 rfl (X := 91) (off := 6) (c := 2) (by kernel_rfl)
 replace f5 : DataW.trod enc Tryz.prog W 0 (fun _ => true) true m 91 [v6, v7] = some y5 := f5
 obtain ⟨e5, x5, r5, p5, q5⟩ := open_opt f5
 obtain ⟨y6, f6⟩ := fld hlen hf 6 rfl (X := 91) (off := 8) (c := 2) (by kernel_rfl)
 replace f6 : DataW.trod enc Tryz.prog W 0 (fun _ => true) true m 91 [v8, v9] = some y6 := f6
 obtain ⟨e6, x6, r6, p6, q6⟩ := open_opt f6
 obtain ⟨y7, f7⟩ := fld hlen hf 7 rfl (X := 92) (off := 10) (c := 1) (by kernel_rfl)
 obtain ⟨k7, z7, e7, x7, a7, r7, p7, l7, q7⟩ := k'g (by kernel_rfl) (show Tryz.prog.cellsOf 50 = 1 by kernel_rfl) (by omega) f7 (fun n _ => open_u64 n)
 obtain rfl : v10 = k7 := (List.cons.inj a7).1
 obtain ⟨y8, f8⟩ := fld hlen hf 8 rfl (X := 92) (off := 11) (c := 1) (by kernel_rfl)
 obtain ⟨k8, z8, e8, x8, a8, r8, p8, l8, q8⟩ := k'g (by kernel_rfl) (show Tryz.prog.cellsOf 50 = 1 by kernel_rfl) (by omega) f8 (fun n _ => open_u64 n)
 obtain rfl : v11 = k8 := (List.cons.inj a8).1
 obtain ⟨y9, f9⟩ := fld hlen hf 9 rfl (X := 85) (off := 12) (c := 1) (by kernel_rfl)
 obtain ⟨k9, z9, e9, x9, a9, r9, p9, l9, q9⟩ := k'g (by kernel_rfl) (show Tryz.prog.cellsOf 239 = 7 by kernel_rfl) (by omega) f9 (fun n _ => open_cEm n)
 obtain rfl : v12 = k9 := (List.cons.inj a9).1
 obtain ⟨n10, a10, hi10⟩ := fld_u32 hlen hf 10 rfl (X := 86) (off := 13) (c := 1) (by kernel_rfl) (by kernel_rfl)
 obtain rfl : v13 = .int .u32 n10 := (List.cons.inj a10).1
 obtain ⟨s11, a11, l11⟩ := k'1t hlen hf 11 rfl (X := 9) (off := 14) (c := 1) (by kernel_rfl) (by kernel_rfl)
 obtain rfl : v14 = .string s11 := (List.cons.inj a11).1
 subst r4
 subst r5
 subst r6
 obtain rfl := u_of r7
 obtain rfl := u_of r8
 exact ⟨⟨e0, n1, n2, n3, e4.1, e4.2, e5.1, e5.2, e6.1, e6.2, e7, e8, e9, n10, s11.data.toList⟩, .agg _, ⟨z0, x0, z7, z8, z9, x9, rfl, Kv.Rs_of r0, r9⟩, ⟨⟨Kv.lns_of fun v hv => (p0 v hv).1, l0, l7, l8, fun v hv => (p9 v hv).1, l9, l11⟩, ⟨fun v hv => (p0 v hv).2, by show n1 < 2 ^ 64; omega, by show n2 < 2 ^ 64; omega, by show n3 < 2 ^ 64; omega, p4, p5, p6, p7, p8, fun v hv => (p9 v hv).2, by show n10 < 4294967296; omega⟩⟩, .cons (q0) (.cons (.int ..) (.cons (.int ..) (.cons (.int ..) (k'43 q4 (k'43 q5 (k'43 q6 (.cons (q7) (.cons (q8) (.cons (q9) (.cons (.int ..) (.cons (k'36 _) .nil)))))))))))⟩
end
end
section
open Go Go.Abs Go.ChangeShapes Go.WideShapes Go.RowKit
section
variable {H : Type} {enc : TypeId × Value → H} {W : World}
theorem open_cEh (fuel : Nat) : ∀ cs x, DataW.trod enc Tryz.prog W 0 (fun _ => true) true fuel 99 cs = some x → ∃ (v : Eh) (xd : D), v.R xd ∧ (v.ln ∧ v.wf) ∧ DRs (Fw W) xd.cells cs := by
 intro cs x h
 have hu : Tryz.prog.underlying 99 = some (.struct #[stF 99 0, stF 99 1, stF 99 2, stF 99 3, stF 99 4, stF 99 5, stF 99 6, stF 99 7, stF 99 8, stF 99 9, stF 99 10, stF 99 11, stF 99 12, stF 99 13, stF 99 14, stF 99 15, stF 99 16]) := by kernel_rfl
 obtain ⟨ys, m, rfl, -, hl, hlen, hf⟩ := DataW.trod_struct hu h
 rw [show Tryz.prog.cellsOf 99 = 24 by kernel_rfl] at hl
 obtain ⟨v0, v1, v2, v3, v4, v5, v6, v7, v8, v9, v10, v11, v12, v13, v14, v15, v16, v17, v18, v19, v20, v21, v22, v23, rfl⟩ : ∃ v0 v1 v2 v3 v4 v5 v6 v7 v8 v9 v10 v11 v12 v13 v14 v15 v16 v17 v18 v19 v20 v21 v22 v23, cs = [v0, v1, v2, v3, v4, v5, v6, v7, v8, v9, v10, v11, v12, v13, v14, v15, v16, v17, v18, v19, v20, v21, v22, v23] := by
  match cs, hl with
  | [v0, v1, v2, v3, v4, v5, v6, v7, v8, v9, v10, v11, v12, v13, v14, v15, v16, v17, v18, v19, v20, v21, v22, v23], _ => exact ⟨_, _, _, _, _, _, _, _, _, _, _, _, _, _, _, _, _, _, _, _, _, _, _, _, rfl⟩
 obtain ⟨y0, f0⟩ := fld hlen hf 0 rfl (X := 27) (off := 0) (c := 1) (by kernel_rfl)
 obtain ⟨k0, z0, e0, x0, a0, r0, p0, l0, q0⟩ := k'g (by kernel_rfl) (show Tryz.prog.cellsOf 64 = 11 by kernel_rfl) (by omega) f0 (fun n _ => (open_vk n).2)
 obtain rfl : v0 = k0 := (List.cons.inj a0).1
 obtain ⟨n1, a1, hi1⟩ := k'1l hlen hf 1 rfl (X := 50) (off := 1) (c := 1) (by kernel_rfl) (by kernel_rfl)
 obtain rfl : v1 = .int .u64 n1 := (List.cons.inj a1).1
 obtain ⟨n2, a2, hi2⟩ := k'1l hlen hf 2 rfl (X := 50) (off := 2) (c := 1) (by kernel_rfl) (by kernel_rfl)
 obtain rfl : v2 = .int .u64 n2 := (List.cons.inj a2).1
 obtain ⟨n3, a3, hi3⟩ := k'1l hlen hf 3 rfl (X := 50) (off := 3) (c := 1) (by kernel_rfl) (by kernel_rfl)
 obtain rfl : v3 = .int .u64 n3 := (List.cons.inj a3).1
 obtain ⟨y4, f4⟩ := fld hlen hf 4 rfl (X := 91) (off := 4) (c := 2) (by kernel_rfl)
 replace f4 : DataW.trod enc Tryz.prog W 0 (fun _ => true) true m 91 [v4, v5] = some y4 := f4
 obtain ⟨e4, x4, r4, p4, q4⟩ := open_opt f4
 obtain ⟨y5, f5⟩ := fld hlen hf 5 rfl (X := 91) (off := 6) (c := 2) (by kernel_rfl)
 replace f5 : DataW.trod enc Tryz.prog W 0 (fun _ => true) true m 91 [v6, v7] = some y5 := f5
 obtain ⟨e5, x5, r5, p5, q5⟩ := open_opt f5
 obtain ⟨y6, f6⟩ := fld hlen hf 6 rfl (X := 91) (off := 8) (c := 2) (by kernel_rfl)
 replace f6 : DataW.trod enc Tryz.prog W 0 (fun _ => true) true m 91 [v8, v9] = some y6 := f6
 obtain ⟨e6, x6, r6, p6, q6⟩ := open_opt f6
 obtain ⟨n7, a7, lo7, hi7⟩ := fld_i32 hlen hf 7 rfl (X := 21) (off := 10) (c := 1) (by kernel_rfl) (by kernel_rfl)
 obtain rfl : v10 = .int .i32 n7 := (List.cons.inj a7).1
 obtain ⟨n8, a8, hi8⟩ := k'1l hlen hf 8 rfl (X := 50) (off := 11) (c := 1) (by kernel_rfl) (by kernel_rfl)
 obtain rfl : v11 = .int .u64 n8 := (List.cons.inj a8).1
 obtain ⟨b9, a9⟩ := fld_bool hlen hf 9 rfl (X := 4) (off := 12) (c := 1) (by kernel_rfl) (by kernel_rfl)
 obtain rfl : v12 = .bool b9 := (List.cons.inj a9).1
 obtain ⟨y10, f10⟩ := fld hlen hf 10 rfl (X := 97) (off := 13) (c := 3) (by kernel_rfl)
 replace f10 : DataW.trod enc Tryz.prog W 0 (fun _ => true) true m 97 [v13, v14, v15] = some y10 := f10
 obtain ⟨e10, x10, r10, p10, q10⟩ := open_bk f10
 obtain ⟨b11, a11⟩ := fld_bool hlen hf 11 rfl (X := 4) (off := 16) (c := 1) (by kernel_rfl) (by kernel_rfl)
 obtain rfl : v16 = .bool b11 := (List.cons.inj a11).1
 obtain ⟨y12, f12⟩ := fld hlen hf 12 rfl (X := 97) (off := 17) (c := 3) (by kernel_rfl)
 replace f12 : DataW.trod enc Tryz.prog W 0 (fun _ => true) true m 97 [v17, v18, v19] = some y12 := f12
 obtain ⟨e12, x12, r12, p12, q12⟩ := open_bk f12
 obtain ⟨y13, f13⟩ := fld hlen hf 13 rfl (X := 85) (off := 20) (c := 1) (by kernel_rfl)
 obtain ⟨k13, z13, e13, x13, a13, r13, p13, l13, q13⟩ := k'g (by kernel_rfl) (show Tryz.prog.cellsOf 239 = 7 by kernel_rfl) (by omega) f13 (fun n _ => open_cEm n)
 obtain rfl : v20 = k13 := (List.cons.inj a13).1
 obtain ⟨n14, a14, hi14⟩ := fld_u32 hlen hf 14 rfl (X := 86) (off := 21) (c := 1) (by kernel_rfl) (by kernel_rfl)
 obtain rfl : v21 = .int .u32 n14 := (List.cons.inj a14).1
 obtain ⟨n15, a15, hi15⟩ := k'1l hlen hf 15 rfl (X := 50) (off := 22) (c := 1) (by kernel_rfl) (by kernel_rfl)
 obtain rfl : v22 = .int .u64 n15 := (List.cons.inj a15).1
 obtain ⟨s16, a16, l16⟩ := k'1t hlen hf 16 rfl (X := 9) (off := 23) (c := 1) (by kernel_rfl) (by kernel_rfl)
 obtain rfl : v23 = .string s16 := (List.cons.inj a16).1
 subst r4
 subst r5
 subst r6
 obtain ⟨z10, rfl⟩ := r10
 obtain ⟨z12, rfl⟩ := r12
 exact ⟨⟨e0, n1, n2, n3, e4.1, e4.2, e5.1, e5.2, e6.1, e6.2, n7, n8, b9, e10, b11, e12, e13, n14, n15, s16.data.toList⟩, .agg _, ⟨z0, x0, z10, z12, z13, x13, rfl, Kv.Rs_of r0, r13⟩, ⟨⟨Kv.lns_of fun v hv => (p0 v hv).1, l0, p10.1, p12.1, fun v hv => (p13 v hv).1, l13, l16⟩, ⟨fun v hv => (p0 v hv).2, by show n1 < 2 ^ 64; omega, by show n2 < 2 ^ 64; omega, by show n3 < 2 ^ 64; omega, p4, p5, p6, ⟨lo7, by omega⟩, by show n8 < 2 ^ 64; omega, p10.2, p12.2, fun v hv => (p13 v hv).2, by show n14 < 4294967296; omega, by show n15 < 2 ^ 64; omega⟩⟩, .cons (q0) (.cons (.int ..) (.cons (.int ..) (.cons (.int ..) (k'43 q4 (k'43 q5 (k'43 q6 (.cons (.int ..) (.cons (.int ..) (.cons (.bool _) (k'43 q10 (.cons (.bool _) (k'43 q12 (.cons (q13) (.cons (.int ..) (.cons (.int ..) (.cons (k'36 _) .nil))))))))))))))))⟩
end
end
section
open Go Go.Abs Go.ChangeShapes Go.WideShapes Go.RowKit
section
variable {H : Type} {enc : TypeId × Value → H} {W : World}
theorem open_cQu (fuel : Nat) : ∀ cs x, DataW.trod enc Tryz.prog W 0 (fun _ => true) true fuel 183 cs = some x → ∃ (v : Qu) (xd : D), v.R xd ∧ (v.ln ∧ v.wf) ∧ DRs (Fw W) xd.cells cs := by
 intro cs x h
 have hu : Tryz.prog.underlying 183 = some (.struct #[stF 183 0, stF 183 1, stF 183 2]) := by kernel_rfl
 obtain ⟨ys, m, rfl, -, hl, hlen, hf⟩ := DataW.trod_struct hu h
 rw [show Tryz.prog.cellsOf 183 = 3 by kernel_rfl] at hl
 obtain ⟨v0, v1, v2, rfl⟩ : ∃ v0 v1 v2, cs = [v0, v1, v2] := by
  match cs, hl with
  | [v0, v1, v2], _ => exact ⟨_, _, _, rfl⟩
 obtain ⟨n0, a0, hi0⟩ := k'1l hlen hf 0 rfl (X := 50) (off := 0) (c := 1) (by kernel_rfl) (by kernel_rfl)
 obtain rfl : v0 = .int .u64 n0 := (List.cons.inj a0).1
 obtain ⟨n1, a1, hi1⟩ := k'1l hlen hf 1 rfl (X := 50) (off := 1) (c := 1) (by kernel_rfl) (by kernel_rfl)
 obtain rfl : v1 = .int .u64 n1 := (List.cons.inj a1).1
 obtain ⟨s2, a2, l2⟩ := k'1t hlen hf 2 rfl (X := 9) (off := 2) (c := 1) (by kernel_rfl) (by kernel_rfl)
 obtain rfl : v2 = .string s2 := (List.cons.inj a2).1
 exact ⟨⟨n0, n1, s2.data.toList⟩, .agg _, rfl, ⟨l2, ⟨by show n0 < 2 ^ 64; omega, by show n1 < 2 ^ 64; omega⟩⟩, .cons (.int ..) (.cons (.int ..) (.cons (k'36 _) .nil))⟩
theorem open_cSu (fuel : Nat) : ∀ cs x, DataW.trod enc Tryz.prog W 0 (fun _ => true) true fuel 103 cs = some x → ∃ (v : Su) (xd : D), v.R xd ∧ (v.ln ∧ v.wf) ∧ DRs (Fw W) xd.cells cs := by
 intro cs x h
 have hu : Tryz.prog.underlying 103 = some (.struct #[stF 103 0, stF 103 1, stF 103 2, stF 103 3, stF 103 4, stF 103 5, stF 103 6, stF 103 7]) := by kernel_rfl
 obtain ⟨ys, m, rfl, -, hl, hlen, hf⟩ := DataW.trod_struct hu h
 rw [show Tryz.prog.cellsOf 103 = 8 by kernel_rfl] at hl
 obtain ⟨v0, v1, v2, v3, v4, v5, v6, v7, rfl⟩ : ∃ v0 v1 v2 v3 v4 v5 v6 v7, cs = [v0, v1, v2, v3, v4, v5, v6, v7] := by
  match cs, hl with
  | [v0, v1, v2, v3, v4, v5, v6, v7], _ => exact ⟨_, _, _, _, _, _, _, _, rfl⟩
 obtain ⟨y0, f0⟩ := fld hlen hf 0 rfl (X := 27) (off := 0) (c := 1) (by kernel_rfl)
 obtain ⟨k0, z0, e0, x0, a0, r0, p0, l0, q0⟩ := k'g (by kernel_rfl) (show Tryz.prog.cellsOf 64 = 11 by kernel_rfl) (by omega) f0 (fun n _ => (open_vk n).2)
 obtain rfl : v0 = k0 := (List.cons.inj a0).1
 obtain ⟨n1, a1, hi1⟩ := k'1l hlen hf 1 rfl (X := 50) (off := 1) (c := 1) (by kernel_rfl) (by kernel_rfl)
 obtain rfl : v1 = .int .u64 n1 := (List.cons.inj a1).1
 obtain ⟨n2, a2, hi2⟩ := k'1l hlen hf 2 rfl (X := 50) (off := 2) (c := 1) (by kernel_rfl) (by kernel_rfl)
 obtain rfl : v2 = .int .u64 n2 := (List.cons.inj a2).1
 obtain ⟨n3, a3, hi3⟩ := k'1l hlen hf 3 rfl (X := 50) (off := 3) (c := 1) (by kernel_rfl) (by kernel_rfl)
 obtain rfl : v3 = .int .u64 n3 := (List.cons.inj a3).1
 obtain ⟨n4, a4, hi4⟩ := k'1l hlen hf 4 rfl (X := 50) (off := 4) (c := 1) (by kernel_rfl) (by kernel_rfl)
 obtain rfl : v4 = .int .u64 n4 := (List.cons.inj a4).1
 obtain ⟨y5, f5⟩ := fld hlen hf 5 rfl (X := 101) (off := 5) (c := 1) (by kernel_rfl)
 obtain ⟨k5, z5, e5, x5, a5, r5, p5, l5, q5⟩ := k'g (by kernel_rfl) (show Tryz.prog.cellsOf 183 = 3 by kernel_rfl) (by omega) f5 (fun n _ => open_cQu n)
 obtain rfl : v5 = k5 := (List.cons.inj a5).1
 obtain ⟨n6, a6, hi6⟩ := fld_u32 hlen hf 6 rfl (X := 86) (off := 6) (c := 1) (by kernel_rfl) (by kernel_rfl)
 obtain rfl : v6 = .int .u32 n6 := (List.cons.inj a6).1
 obtain ⟨s7, a7, l7⟩ := k'1t hlen hf 7 rfl (X := 9) (off := 7) (c := 1) (by kernel_rfl) (by kernel_rfl)
 obtain rfl : v7 = .string s7 := (List.cons.inj a7).1
 exact ⟨⟨e0, n1, n2, n3, n4, e5, n6, s7.data.toList⟩, .agg _, ⟨z0, x0, z5, x5, rfl, Kv.Rs_of r0, r5⟩, ⟨⟨Kv.lns_of fun v hv => (p0 v hv).1, l0, fun v hv => (p5 v hv).1, l5, l7⟩, ⟨fun v hv => (p0 v hv).2, by show n1 < 2 ^ 64; omega, by show n2 < 2 ^ 64; omega, by show n3 < 2 ^ 64; omega, by show n4 < 2 ^ 64; omega, fun v hv => (p5 v hv).2, by show n6 < 4294967296; omega⟩⟩, .cons (q0) (.cons (.int ..) (.cons (.int ..) (.cons (.int ..) (.cons (.int ..) (.cons (q5) (.cons (.int ..) (.cons (k'36 _) .nil)))))))⟩
end
end
section
open Go Go.Abs Go.ChangeShapes Go.WideShapes Go.RowKit
section
variable {H : Type} {enc : TypeId × Value → H} {W : World}
theorem open_cMe (fuel : Nat) : ∀ cs x, DataW.trod enc Tryz.prog W 0 (fun _ => true) true fuel 29 cs = some x → ∃ (v : Me) (xd : D), v.R xd ∧ (v.ln ∧ v.wf) ∧ DRs (Fw W) xd.cells cs := by
 intro cs x h
 have hu : Tryz.prog.underlying 29 = some (.struct #[stF 29 0, stF 29 1, stF 29 2, stF 29 3, stF 29 4, stF 29 5, stF 29 6, stF 29 7, stF 29 8, stF 29 9, stF 29 10, stF 29 11, stF 29 12]) := by kernel_rfl
 obtain ⟨ys, m, rfl, -, hl, hlen, hf⟩ := DataW.trod_struct hu h
 rw [show Tryz.prog.cellsOf 29 = 13 by kernel_rfl] at hl
 obtain ⟨v0, v1, v2, v3, v4, v5, v6, v7, v8, v9, v10, v11, v12, rfl⟩ : ∃ v0 v1 v2 v3 v4 v5 v6 v7 v8 v9 v10 v11 v12, cs = [v0, v1, v2, v3, v4, v5, v6, v7, v8, v9, v10, v11, v12] := by
  match cs, hl with
  | [v0, v1, v2, v3, v4, v5, v6, v7, v8, v9, v10, v11, v12], _ => exact ⟨_, _, _, _, _, _, _, _, _, _, _, _, _, rfl⟩
 obtain ⟨s0, a0, l0⟩ := k'1t hlen hf 0 rfl (X := 9) (off := 0) (c := 1) (by kernel_rfl) (by kernel_rfl)
 obtain rfl : v0 = .string s0 := (List.cons.inj a0).1
 obtain ⟨s1, a1, l1⟩ := k'1t hlen hf 1 rfl (X := 9) (off := 1) (c := 1) (by kernel_rfl) (by kernel_rfl)
 obtain rfl : v1 = .string s1 := (List.cons.inj a1).1
 obtain ⟨s2, a2, l2⟩ := k'1t hlen hf 2 rfl (X := 9) (off := 2) (c := 1) (by kernel_rfl) (by kernel_rfl)
 obtain rfl : v2 = .string s2 := (List.cons.inj a2).1
 obtain ⟨n3, a3, lo3, hi3⟩ := fld_i64 hlen hf 3 rfl (X := 3) (off := 3) (c := 1) (by kernel_rfl) (by kernel_rfl)
 obtain rfl : v3 = .int .i64 n3 := (List.cons.inj a3).1
 obtain ⟨n4, a4, lo4, hi4⟩ := fld_i32 hlen hf 4 rfl (X := 21) (off := 4) (c := 1) (by kernel_rfl) (by kernel_rfl)
 obtain rfl : v4 = .int .i32 n4 := (List.cons.inj a4).1
 obtain ⟨b5, a5⟩ := fld_bool hlen hf 5 rfl (X := 4) (off := 5) (c := 1) (by kernel_rfl) (by kernel_rfl)
 obtain rfl : v5 = .bool b5 := (List.cons.inj a5).1
 obtain ⟨y6, f6⟩ := fld hlen hf 6 rfl (X := 23) (off := 6) (c := 1) (by kernel_rfl)
 obtain ⟨k6, z6, e6, x6, a6, r6, p6, l6, q6⟩ := k'g (by kernel_rfl) (show Tryz.prog.cellsOf 88 = 8 by kernel_rfl) (by omega) f6 (fun n _ => open_cNb n)
 obtain rfl : v6 = k6 := (List.cons.inj a6).1
 obtain ⟨y7, f7⟩ := fld hlen hf 7 rfl (X := 24) (off := 7) (c := 1) (by kernel_rfl)
 obtain ⟨k7, z7, e7, x7, a7, r7, p7, l7, q7⟩ := k'g (by kernel_rfl) (show Tryz.prog.cellsOf 94 = 15 by kernel_rfl) (by omega) f7 (fun n _ => open_cHi n)
 obtain rfl : v7 = k7 := (List.cons.inj a7).1
 obtain ⟨y8, f8⟩ := fld hlen hf 8 rfl (X := 25) (off := 8) (c := 1) (by kernel_rfl)
 obtain ⟨k8, z8, e8, x8, a8, r8, p8, l8, q8⟩ := k'g (by kernel_rfl) (show Tryz.prog.cellsOf 99 = 24 by kernel_rfl) (by omega) f8 (fun n _ => open_cEh n)
 obtain rfl : v8 = k8 := (List.cons.inj a8).1
 obtain ⟨y9, f9⟩ := fld hlen hf 9 rfl (X := 26) (off := 9) (c := 1) (by kernel_rfl)
 obtain ⟨k9, z9, e9, x9, a9, r9, p9, l9, q9⟩ := k'g (by kernel_rfl) (show Tryz.prog.cellsOf 103 = 8 by kernel_rfl) (by omega) f9 (fun n _ => open_cSu n)
 obtain rfl : v9 = k9 := (List.cons.inj a9).1
 obtain ⟨y10, f10⟩ := fld hlen hf 10 rfl (X := 27) (off := 10) (c := 1) (by kernel_rfl)
 obtain ⟨k10, z10, e10, x10, a10, r10, p10, l10, q10⟩ := k'g (by kernel_rfl) (show Tryz.prog.cellsOf 64 = 11 by kernel_rfl) (by omega) f10 (fun n _ => (open_vk n).2)
 obtain rfl : v10 = k10 := (List.cons.inj a10).1
 obtain ⟨s11, a11, l11⟩ := k'1t hlen hf 11 rfl (X := 9) (off := 11) (c := 1) (by kernel_rfl) (by kernel_rfl)
 obtain rfl : v11 = .string s11 := (List.cons.inj a11).1
 obtain ⟨s12, a12, l12⟩ := k'1t hlen hf 12 rfl (X := 9) (off := 12) (c := 1) (by kernel_rfl) (by kernel_rfl)
 obtain rfl : v12 = .string s12 := (List.cons.inj a12).1
 exact ⟨⟨s0.data.toList, s1.data.toList, s2.data.toList, n3, ⟨e6, e7, e8, e9, n4, b5, s11.data.toList⟩, e10, s12.data.toList⟩, .agg _, ⟨z6, x6, z7, x7, z8, x8, z9, x9, z10, x10, rfl, r6, r7, r8, r9, Kv.Rs_of r10⟩, ⟨⟨l0, l1, l2, ⟨fun v hv => (p6 v hv).1, l6, fun v hv => (p7 v hv).1, l7, fun v hv => (p8 v hv).1, l8, fun v hv => (p9 v hv).1, l9, l11⟩, Kv.lns_of fun v hv => (p10 v hv).1, l10, l12⟩, ⟨⟨fun v hv => (p6 v hv).2, fun v hv => (p7 v hv).2, fun v hv => (p8 v hv).2, fun v hv => (p9 v hv).2, lo4, by omega⟩, fun v hv => (p10 v hv).2⟩⟩, .cons (k'36 _) (.cons (k'36 _) (.cons (k'36 _) (.cons (.int ..) (.cons (.int ..) (.cons (.bool _) (.cons (q6) (.cons (q7) (.cons (q8) (.cons (q9) (.cons (q10) (.cons (k'36 _) (.cons (k'36 _) .nil))))))))))))⟩
theorem open_Me {base : Nat} {v : Value} {d : DataW H} {p : List MemPlace} (hval : Value.okWide Tryz.prog W .any base 29 v) (h : DataW.Trod enc Tryz.prog W 0 (fun _ => true) true 29 v d p) :
  ∃ (x : Me) (xd : D), x.R xd ∧ (x.ln ∧ x.wf) ∧ DR (Fw W) xd v := by
 have hu : Tryz.prog.underlying 29 = some (.struct #[stF 29 0, stF 29 1, stF 29 2, stF 29 3, stF 29 4, stF 29 5, stF 29 6, stF 29 7, stF 29 8, stF 29 9, stF 29 10, stF 29 11, stF 29 12]) := by kernel_rfl
 obtain ⟨cs, rfl⟩ : ∃ cs, v = .agg cs := by
  unfold Value.okWide at hval
  rw [hu] at hval
  obtain ⟨cs, a, -⟩ := hval
  exact ⟨cs, a⟩
 obtain ⟨cs⟩ := cs
 obtain ⟨fuel, hf⟩ := h
 obtain ⟨x, xd, r, q, e⟩ := open_cMe fuel _ _ hf
 have r' := r
 obtain ⟨_, _, _, _, _, _, _, _, _, _, rfl, -⟩ := r'
 exact ⟨x, _, r, q, .agg e⟩
end
end
