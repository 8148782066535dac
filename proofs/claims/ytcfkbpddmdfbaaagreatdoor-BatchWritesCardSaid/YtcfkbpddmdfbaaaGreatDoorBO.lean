/- Arguments: Quantile. -/
import Derived.Test.YtcfkbpddmdfbaaaGreatDoorQO
import Derived.Test.YtcfkbpddmdfbaaaGreatDoorQV
import Derived.Deep.Strs
import Derived.ChangeSlices
import Derived.ChangeArms
import Derived.Test.YtcfkbpddmdfbaaaGreatDoorMV
import Derived.Test.YtcfkbpddmdfbaaaGreatDoorXM0
set_option linter.unusedSimpArgs false
set_option linter.unusedVariables false
set_option maxRecDepth 100000
namespace Go.Proofs.YtcfkbpddmdfbaaaGreatDoor
open Go Go.Abs
section
open Go Go.Abs Go.ChangeShapes Go.WideShapes Go.RowKit
section
variable {H : Type} {enc : TypeId × Value → H} {W : World}
theorem open_cQu (fuel : Nat) : ∀ cs x, DataW.trod enc Tryz.prog W 0 (fun _ => true) true fuel 265 cs = some x → ∃ (v : Qu) (xd : D), v.R xd ∧ (v.ln ∧ v.wf) ∧ DRs (Fw W) xd.cells cs := by
 intro cs x h
 have hu : Tryz.prog.underlying 265 = some (.struct #[stF 265 0, stF 265 1, stF 265 2]) := by kernel_rfl
 obtain ⟨ys, m, rfl, -, hl, hlen, hf⟩ := DataW.trod_struct hu h
 rw [show Tryz.prog.cellsOf 265 = 3 by kernel_rfl] at hl
 obtain ⟨v0, v1, v2, rfl⟩ : ∃ v0 v1 v2, cs = [v0, v1, v2] := by
  match cs, hl with
  | [v0, v1, v2], _ => exact ⟨_, _, _, rfl⟩
 obtain ⟨n0, a0, hi0⟩ := k'1w hlen hf 0 rfl (X := 73) (off := 0) (c := 1) (by kernel_rfl) (by kernel_rfl)
 obtain rfl : v0 = .int .u64 n0 := (List.cons.inj a0).1
 obtain ⟨n1, a1, hi1⟩ := k'1w hlen hf 1 rfl (X := 73) (off := 1) (c := 1) (by kernel_rfl) (by kernel_rfl)
 obtain rfl : v1 = .int .u64 n1 := (List.cons.inj a1).1
 obtain ⟨s2, a2, l2⟩ := k'11 hlen hf 2 rfl (X := 9) (off := 2) (c := 1) (by kernel_rfl) (by kernel_rfl)
 obtain rfl : v2 = .string s2 := (List.cons.inj a2).1
 exact ⟨⟨n0, n1, s2.data.toList⟩, .agg _, rfl, ⟨l2, ⟨by show n0 < 2 ^ 64; omega, by show n1 < 2 ^ 64; omega⟩⟩, .cons (.int ..) (.cons (.int ..) (.cons (k'20 _) .nil))⟩
theorem open_cSu (fuel : Nat) : ∀ cs x, DataW.trod enc Tryz.prog W 0 (fun _ => true) true fuel 197 cs = some x → ∃ (v : Su) (xd : D), v.R xd ∧ (v.ln ∧ v.wf) ∧ DRs (Fw W) xd.cells cs := by
 intro cs x h
 have hu : Tryz.prog.underlying 197 = some (.struct #[stF 197 0, stF 197 1, stF 197 2, stF 197 3, stF 197 4, stF 197 5, stF 197 6, stF 197 7]) := by kernel_rfl
 obtain ⟨ys, m, rfl, -, hl, hlen, hf⟩ := DataW.trod_struct hu h
 rw [show Tryz.prog.cellsOf 197 = 8 by kernel_rfl] at hl
 obtain ⟨v0, v1, v2, v3, v4, v5, v6, v7, rfl⟩ : ∃ v0 v1 v2 v3 v4 v5 v6 v7, cs = [v0, v1, v2, v3, v4, v5, v6, v7] := by
  match cs, hl with
  | [v0, v1, v2, v3, v4, v5, v6, v7], _ => exact ⟨_, _, _, _, _, _, _, _, rfl⟩
 obtain ⟨y0, f0⟩ := fld hlen hf 0 rfl (X := 55) (off := 0) (c := 1) (by kernel_rfl)
 obtain ⟨k0, z0, e0, x0, a0, r0, p0, l0, q0⟩ := k'd (by kernel_rfl) (show Tryz.prog.cellsOf 250 = 11 by kernel_rfl) (by omega) f0 (fun n _ => (open_vk n).2)
 obtain rfl : v0 = k0 := (List.cons.inj a0).1
 obtain ⟨n1, a1, hi1⟩ := k'1w hlen hf 1 rfl (X := 73) (off := 1) (c := 1) (by kernel_rfl) (by kernel_rfl)
 obtain rfl : v1 = .int .u64 n1 := (List.cons.inj a1).1
 obtain ⟨n2, a2, hi2⟩ := k'1w hlen hf 2 rfl (X := 73) (off := 2) (c := 1) (by kernel_rfl) (by kernel_rfl)
 obtain rfl : v2 = .int .u64 n2 := (List.cons.inj a2).1
 obtain ⟨n3, a3, hi3⟩ := k'1w hlen hf 3 rfl (X := 73) (off := 3) (c := 1) (by kernel_rfl) (by kernel_rfl)
 obtain rfl : v3 = .int .u64 n3 := (List.cons.inj a3).1
 obtain ⟨n4, a4, hi4⟩ := k'1w hlen hf 4 rfl (X := 73) (off := 4) (c := 1) (by kernel_rfl) (by kernel_rfl)
 obtain rfl : v4 = .int .u64 n4 := (List.cons.inj a4).1
 obtain ⟨y5, f5⟩ := fld hlen hf 5 rfl (X := 195) (off := 5) (c := 1) (by kernel_rfl)
 obtain ⟨k5, z5, e5, x5, a5, r5, p5, l5, q5⟩ := k'd (by kernel_rfl) (show Tryz.prog.cellsOf 265 = 3 by kernel_rfl) (by omega) f5 (fun n _ => open_cQu n)
 obtain rfl : v5 = k5 := (List.cons.inj a5).1
 obtain ⟨n6, a6, hi6⟩ := fld_u32 hlen hf 6 rfl (X := 56) (off := 6) (c := 1) (by kernel_rfl) (by kernel_rfl)
 obtain rfl : v6 = .int .u32 n6 := (List.cons.inj a6).1
 obtain ⟨s7, a7, l7⟩ := k'11 hlen hf 7 rfl (X := 9) (off := 7) (c := 1) (by kernel_rfl) (by kernel_rfl)
 obtain rfl : v7 = .string s7 := (List.cons.inj a7).1
 exact ⟨⟨e0, n1, n2, n3, n4, e5, n6, s7.data.toList⟩, .agg _, ⟨z0, x0, z5, x5, rfl, Kv.Rs_of r0, r5⟩, ⟨⟨Kv.lns_of fun v hv => (p0 v hv).1, l0, fun v hv => (p5 v hv).1, l5, l7⟩, ⟨fun v hv => (p0 v hv).2, by show n1 < 2 ^ 64; omega, by show n2 < 2 ^ 64; omega, by show n3 < 2 ^ 64; omega, by show n4 < 2 ^ 64; omega, fun v hv => (p5 v hv).2, by show n6 < 4294967296; omega⟩⟩, .cons (q0) (.cons (.int ..) (.cons (.int ..) (.cons (.int ..) (.cons (.int ..) (.cons (q5) (.cons (.int ..) (.cons (k'20 _) .nil)))))))⟩
end
end
section
open Go Go.Abs Go.ChangeShapes Go.WideShapes Go.RowKit
section
variable {H : Type} {enc : TypeId × Value → H} {W : World}
theorem open_cMe (fuel : Nat) : ∀ cs x, DataW.trod enc Tryz.prog W 0 (fun _ => true) true fuel 100 cs = some x → ∃ (v : Me) (xd : D), v.R xd ∧ (v.ln ∧ v.wf) ∧ DRs (Fw W) xd.cells cs := by
 intro cs x h
 have hu : Tryz.prog.underlying 100 = some (.struct #[stF 100 0, stF 100 1, stF 100 2, stF 100 3, stF 100 4, stF 100 5, stF 100 6, stF 100 7, stF 100 8, stF 100 9, stF 100 10, stF 100 11, stF 100 12]) := by kernel_rfl
 obtain ⟨ys, m, rfl, -, hl, hlen, hf⟩ := DataW.trod_struct hu h
 rw [show Tryz.prog.cellsOf 100 = 13 by kernel_rfl] at hl
 obtain ⟨v0, v1, v2, v3, v4, v5, v6, v7, v8, v9, v10, v11, v12, rfl⟩ : ∃ v0 v1 v2 v3 v4 v5 v6 v7 v8 v9 v10 v11 v12, cs = [v0, v1, v2, v3, v4, v5, v6, v7, v8, v9, v10, v11, v12] := by
  match cs, hl with
  | [v0, v1, v2, v3, v4, v5, v6, v7, v8, v9, v10, v11, v12], _ => exact ⟨_, _, _, _, _, _, _, _, _, _, _, _, _, rfl⟩
 obtain ⟨s0, a0, l0⟩ := k'11 hlen hf 0 rfl (X := 9) (off := 0) (c := 1) (by kernel_rfl) (by kernel_rfl)
 obtain rfl : v0 = .string s0 := (List.cons.inj a0).1
 obtain ⟨s1, a1, l1⟩ := k'11 hlen hf 1 rfl (X := 9) (off := 1) (c := 1) (by kernel_rfl) (by kernel_rfl)
 obtain rfl : v1 = .string s1 := (List.cons.inj a1).1
 obtain ⟨s2, a2, l2⟩ := k'11 hlen hf 2 rfl (X := 9) (off := 2) (c := 1) (by kernel_rfl) (by kernel_rfl)
 obtain rfl : v2 = .string s2 := (List.cons.inj a2).1
 obtain ⟨n3, a3, lo3, hi3⟩ := fld_i64 hlen hf 3 rfl (X := 3) (off := 3) (c := 1) (by kernel_rfl) (by kernel_rfl)
 obtain rfl : v3 = .int .i64 n3 := (List.cons.inj a3).1
 obtain ⟨n4, a4, lo4, hi4⟩ := fld_i32 hlen hf 4 rfl (X := 21) (off := 4) (c := 1) (by kernel_rfl) (by kernel_rfl)
 obtain rfl : v4 = .int .i32 n4 := (List.cons.inj a4).1
 obtain ⟨b5, a5⟩ := k'3b hlen hf 5 rfl (X := 4) (off := 5) (c := 1) (by kernel_rfl) (by kernel_rfl)
 obtain rfl : v5 = .bool b5 := (List.cons.inj a5).1
 obtain ⟨y6, f6⟩ := fld hlen hf 6 rfl (X := 95) (off := 6) (c := 1) (by kernel_rfl)
 obtain ⟨k6, z6, e6, x6, a6, r6, p6, l6, q6⟩ := k'd (by kernel_rfl) (show Tryz.prog.cellsOf 182 = 8 by kernel_rfl) (by omega) f6 (fun n _ => open_cNb n)
 obtain rfl : v6 = k6 := (List.cons.inj a6).1
 obtain ⟨y7, f7⟩ := fld hlen hf 7 rfl (X := 96) (off := 7) (c := 1) (by kernel_rfl)
 obtain ⟨k7, z7, e7, x7, a7, r7, p7, l7, q7⟩ := k'd (by kernel_rfl) (show Tryz.prog.cellsOf 188 = 15 by kernel_rfl) (by omega) f7 (fun n _ => open_cHi n)
 obtain rfl : v7 = k7 := (List.cons.inj a7).1
 obtain ⟨y8, f8⟩ := fld hlen hf 8 rfl (X := 97) (off := 8) (c := 1) (by kernel_rfl)
 obtain ⟨k8, z8, e8, x8, a8, r8, p8, l8, q8⟩ := k'd (by kernel_rfl) (show Tryz.prog.cellsOf 193 = 24 by kernel_rfl) (by omega) f8 (fun n _ => open_cEh n)
 obtain rfl : v8 = k8 := (List.cons.inj a8).1
 obtain ⟨y9, f9⟩ := fld hlen hf 9 rfl (X := 98) (off := 9) (c := 1) (by kernel_rfl)
 obtain ⟨k9, z9, e9, x9, a9, r9, p9, l9, q9⟩ := k'd (by kernel_rfl) (show Tryz.prog.cellsOf 197 = 8 by kernel_rfl) (by omega) f9 (fun n _ => open_cSu n)
 obtain rfl : v9 = k9 := (List.cons.inj a9).1
 obtain ⟨y10, f10⟩ := fld hlen hf 10 rfl (X := 55) (off := 10) (c := 1) (by kernel_rfl)
 obtain ⟨k10, z10, e10, x10, a10, r10, p10, l10, q10⟩ := k'd (by kernel_rfl) (show Tryz.prog.cellsOf 250 = 11 by kernel_rfl) (by omega) f10 (fun n _ => (open_vk n).2)
 obtain rfl : v10 = k10 := (List.cons.inj a10).1
 obtain ⟨s11, a11, l11⟩ := k'11 hlen hf 11 rfl (X := 9) (off := 11) (c := 1) (by kernel_rfl) (by kernel_rfl)
 obtain rfl : v11 = .string s11 := (List.cons.inj a11).1
 obtain ⟨s12, a12, l12⟩ := k'11 hlen hf 12 rfl (X := 9) (off := 12) (c := 1) (by kernel_rfl) (by kernel_rfl)
 obtain rfl : v12 = .string s12 := (List.cons.inj a12).1
 exact ⟨⟨s0.data.toList, s1.data.toList, s2.data.toList, n3, ⟨e6, e7, e8, e9, n4, b5, s11.data.toList⟩, e10, s12.data.toList⟩, .agg _, ⟨z6, x6, z7, x7, z8, x8, z9, x9, z10, x10, rfl, r6, r7, r8, r9, Kv.Rs_of r10⟩, ⟨⟨l0, l1, l2, ⟨fun v hv => (p6 v hv).1, l6, fun v hv => (p7 v hv).1, l7, fun v hv => (p8 v hv).1, l8, fun v hv => (p9 v hv).1, l9, l11⟩, Kv.lns_of fun v hv => (p10 v hv).1, l10, l12⟩, ⟨⟨fun v hv => (p6 v hv).2, fun v hv => (p7 v hv).2, fun v hv => (p8 v hv).2, fun v hv => (p9 v hv).2, lo4, by omega⟩, fun v hv => (p10 v hv).2⟩⟩, .cons (k'20 _) (.cons (k'20 _) (.cons (k'20 _) (.cons (.int ..) (.cons (.int ..) (.cons (.bool _) (.cons (q6) (.cons (q7) (.cons (q8) (.cons (q9) (.cons (q10) (.cons (k'20 _) (.cons (k'20 _) .nil))))))))))))⟩
end
end
section
open Go Go.Abs Go.ChangeShapes Go.WideShapes Go.RowKit
section
variable {H : Type} {enc : TypeId × Value → H} {W : World}
theorem open_cSc {fuel : Nat} {cs : List Value} {x : DataW H × List MemPlace} (h : DataW.trod enc Tryz.prog W 0 (fun _ => true) true fuel 91 cs = some x) : ∃ (v : Sc) (xd : D), v.R xd ∧ (v.ln ∧ v.wf) ∧ DRs (Fw W) xd.cells cs := by
 have hu : Tryz.prog.underlying 91 = some (.struct #[stF 91 0, stF 91 1, stF 91 2, stF 91 3, stF 91 4]) := by kernel_rfl
 obtain ⟨ys, m, rfl, -, hl, hlen, hf⟩ := DataW.trod_struct hu h
 rw [show Tryz.prog.cellsOf 91 = 5 by kernel_rfl] at hl
 obtain ⟨v0, v1, v2, v3, v4, rfl⟩ : ∃ v0 v1 v2 v3 v4, cs = [v0, v1, v2, v3, v4] := by
  match cs, hl with
  | [v0, v1, v2, v3, v4], _ => exact ⟨_, _, _, _, _, rfl⟩
 obtain ⟨s0, a0, l0⟩ := k'11 hlen hf 0 rfl (X := 9) (off := 0) (c := 1) (by kernel_rfl) (by kernel_rfl)
 obtain rfl : v0 = .string s0 := (List.cons.inj a0).1
 obtain ⟨s1, a1, l1⟩ := k'11 hlen hf 1 rfl (X := 9) (off := 1) (c := 1) (by kernel_rfl) (by kernel_rfl)
 obtain rfl : v1 = .string s1 := (List.cons.inj a1).1
 obtain ⟨y2, f2⟩ := fld hlen hf 2 rfl (X := 55) (off := 2) (c := 1) (by kernel_rfl)
 obtain ⟨k2, z2, e2, x2, a2, r2, p2, l2, q2⟩ := k'd (by kernel_rfl) (show Tryz.prog.cellsOf 250 = 11 by kernel_rfl) (by omega) f2 (fun n _ => (open_vk n).2)
 obtain rfl : v2 = k2 := (List.cons.inj a2).1
 obtain ⟨n3, a3, hi3⟩ := fld_u32 hlen hf 3 rfl (X := 56) (off := 3) (c := 1) (by kernel_rfl) (by kernel_rfl)
 obtain rfl : v3 = .int .u32 n3 := (List.cons.inj a3).1
 obtain ⟨s4, a4, l4⟩ := k'11 hlen hf 4 rfl (X := 9) (off := 4) (c := 1) (by kernel_rfl) (by kernel_rfl)
 obtain rfl : v4 = .string s4 := (List.cons.inj a4).1
 exact ⟨⟨s0.data.toList, s1.data.toList, e2, n3, s4.data.toList⟩, .agg _, ⟨z2, x2, rfl, Kv.Rs_of r2⟩, ⟨⟨l0, l1, Kv.lns_of fun v hv => (p2 v hv).1, l2, l4⟩, ⟨fun v hv => (p2 v hv).2, by show n3 < 4294967296; omega⟩⟩, .cons (k'20 _) (.cons (k'20 _) (.cons (q2) (.cons (.int ..) (.cons (k'20 _) .nil))))⟩
theorem open_cRs {fuel : Nat} {cs : List Value} {x : DataW H × List MemPlace} (h : DataW.trod enc Tryz.prog W 0 (fun _ => true) true fuel 58 cs = some x) : ∃ (v : Rs) (xd : D), v.R xd ∧ (v.ln ∧ v.wf) ∧ DRs (Fw W) xd.cells cs := by
 have hu : Tryz.prog.underlying 58 = some (.struct #[stF 58 0, stF 58 1, stF 58 2]) := by kernel_rfl
 obtain ⟨ys, m, rfl, -, hl, hlen, hf⟩ := DataW.trod_struct hu h
 rw [show Tryz.prog.cellsOf 58 = 3 by kernel_rfl] at hl
 obtain ⟨v0, v1, v2, rfl⟩ : ∃ v0 v1 v2, cs = [v0, v1, v2] := by
  match cs, hl with
  | [v0, v1, v2], _ => exact ⟨_, _, _, rfl⟩
 obtain ⟨y0, f0⟩ := fld hlen hf 0 rfl (X := 55) (off := 0) (c := 1) (by kernel_rfl)
 obtain ⟨k0, z0, e0, x0, a0, r0, p0, l0, q0⟩ := k'd (by kernel_rfl) (show Tryz.prog.cellsOf 250 = 11 by kernel_rfl) (by omega) f0 (fun n _ => (open_vk n).2)
 obtain rfl : v0 = k0 := (List.cons.inj a0).1
 obtain ⟨n1, a1, hi1⟩ := fld_u32 hlen hf 1 rfl (X := 56) (off := 1) (c := 1) (by kernel_rfl) (by kernel_rfl)
 obtain rfl : v1 = .int .u32 n1 := (List.cons.inj a1).1
 obtain ⟨s2, a2, l2⟩ := k'11 hlen hf 2 rfl (X := 9) (off := 2) (c := 1) (by kernel_rfl) (by kernel_rfl)
 obtain rfl : v2 = .string s2 := (List.cons.inj a2).1
 exact ⟨⟨e0, n1, s2.data.toList⟩, .agg _, ⟨z0, x0, rfl, Kv.Rs_of r0⟩, ⟨⟨Kv.lns_of fun v hv => (p0 v hv).1, l0, l2⟩, ⟨fun v hv => (p0 v hv).2, by show n1 < 4294967296; omega⟩⟩, .cons (q0) (.cons (.int ..) (.cons (k'20 _) .nil))⟩
theorem open_cSm (fuel : Nat) : ∀ cs x, DataW.trod enc Tryz.prog W 0 (fun _ => true) true fuel 94 cs = some x → ∃ (v : Sm) (xd : D), Sm.R v xd ∧ (Sm.ln v ∧ smM.wf v) ∧ DRs (Fw W) xd.cells cs := by
 intro cs x h
 have hu : Tryz.prog.underlying 94 = some (.struct #[stF 94 0, stF 94 1, stF 94 2, stF 94 3, stF 94 4]) := by kernel_rfl
 obtain ⟨ys, m, rfl, -, hl, hlen, hf⟩ := DataW.trod_struct hu h
 rw [show Tryz.prog.cellsOf 94 = 9 by kernel_rfl] at hl
 obtain ⟨v0, v1, v2, v3, v4, v5, v6, v7, v8, rfl⟩ : ∃ v0 v1 v2 v3 v4 v5 v6 v7 v8, cs = [v0, v1, v2, v3, v4, v5, v6, v7, v8] := by
  match cs, hl with
  | [v0, v1, v2, v3, v4, v5, v6, v7, v8], _ => exact ⟨_, _, _, _, _, _, _, _, _, rfl⟩
 obtain ⟨b0, a0⟩ := k'3b hlen hf 0 rfl (X := 4) (off := 0) (c := 1) (by kernel_rfl) (by kernel_rfl)
 obtain rfl : v0 = .bool b0 := (List.cons.inj a0).1
 obtain ⟨y1, f1⟩ := fld hlen hf 1 rfl (X := 91) (off := 1) (c := 5) (by kernel_rfl)
 replace f1 : DataW.trod enc Tryz.prog W 0 (fun _ => true) true m 91 [v1, v2, v3, v4, v5] = some y1 := f1
 obtain ⟨e1, x1, r1, p1, q1⟩ := open_cSc f1
 obtain ⟨y2, f2⟩ := fld hlen hf 2 rfl (X := 92) (off := 6) (c := 1) (by kernel_rfl)
 obtain ⟨k2, z2, e2, x2, a2, r2, p2, l2, q2⟩ := k'd (by kernel_rfl) (show Tryz.prog.cellsOf 100 = 13 by kernel_rfl) (by omega) f2 (fun n _ => open_cMe n)
 obtain rfl : v6 = k2 := (List.cons.inj a2).1
 obtain ⟨s3, a3, l3⟩ := k'11 hlen hf 3 rfl (X := 9) (off := 7) (c := 1) (by kernel_rfl) (by kernel_rfl)
 obtain rfl : v7 = .string s3 := (List.cons.inj a3).1
 obtain ⟨s4, a4, l4⟩ := k'11 hlen hf 4 rfl (X := 9) (off := 8) (c := 1) (by kernel_rfl) (by kernel_rfl)
 obtain rfl : v8 = .string s4 := (List.cons.inj a4).1
 obtain ⟨zp, lp, rfl, r1⟩ := r1
 exact ⟨⟨b0, e1, e2, s3.data.toList, s4.data.toList⟩, .agg _, ⟨zp, lp, z2, x2, rfl, r1, r2⟩, ⟨⟨p1.1, fun v hv => (p2 v hv).1, l2, l3, l4⟩, ⟨p1.2, fun v hv => (p2 v hv).2⟩⟩, .cons (.bool _) (k'3j q1 (.cons (q2) (.cons (k'20 _) (.cons (k'20 _) .nil))))⟩
theorem open_cRm (fuel : Nat) : ∀ cs x, DataW.trod enc Tryz.prog W 0 (fun _ => true) true fuel 61 cs = some x → ∃ (v : Rm) (xd : D), Rm.R v xd ∧ (Rm.ln v ∧ rmM.wf v) ∧ DRs (Fw W) xd.cells cs := by
 intro cs x h
 have hu : Tryz.prog.underlying 61 = some (.struct #[stF 61 0, stF 61 1, stF 61 2, stF 61 3, stF 61 4]) := by kernel_rfl
 obtain ⟨ys, m, rfl, -, hl, hlen, hf⟩ := DataW.trod_struct hu h
 rw [show Tryz.prog.cellsOf 61 = 7 by kernel_rfl] at hl
 obtain ⟨v0, v1, v2, v3, v4, v5, v6, rfl⟩ : ∃ v0 v1 v2 v3 v4 v5 v6, cs = [v0, v1, v2, v3, v4, v5, v6] := by
  match cs, hl with
  | [v0, v1, v2, v3, v4, v5, v6], _ => exact ⟨_, _, _, _, _, _, _, rfl⟩
 obtain ⟨b0, a0⟩ := k'3b hlen hf 0 rfl (X := 4) (off := 0) (c := 1) (by kernel_rfl) (by kernel_rfl)
 obtain rfl : v0 = .bool b0 := (List.cons.inj a0).1
 obtain ⟨y1, f1⟩ := fld hlen hf 1 rfl (X := 58) (off := 1) (c := 3) (by kernel_rfl)
 replace f1 : DataW.trod enc Tryz.prog W 0 (fun _ => true) true m 58 [v1, v2, v3] = some y1 := f1
 obtain ⟨e1, x1, r1, p1, q1⟩ := open_cRs f1
 obtain ⟨y2, f2⟩ := fld hlen hf 2 rfl (X := 59) (off := 4) (c := 1) (by kernel_rfl)
 obtain ⟨k2, z2, e2, x2, a2, r2, p2, l2, q2⟩ := k'd (by kernel_rfl) (show Tryz.prog.cellsOf 94 = 9 by kernel_rfl) (by omega) f2 (fun n _ => open_cSm n)
 obtain rfl : v4 = k2 := (List.cons.inj a2).1
 obtain ⟨s3, a3, l3⟩ := k'11 hlen hf 3 rfl (X := 9) (off := 5) (c := 1) (by kernel_rfl) (by kernel_rfl)
 obtain rfl : v5 = .string s3 := (List.cons.inj a3).1
 obtain ⟨s4, a4, l4⟩ := k'11 hlen hf 4 rfl (X := 9) (off := 6) (c := 1) (by kernel_rfl) (by kernel_rfl)
 obtain rfl : v6 = .string s4 := (List.cons.inj a4).1
 obtain ⟨zp, lp, rfl, r1⟩ := r1
 exact ⟨⟨b0, e1, e2, s3.data.toList, s4.data.toList⟩, .agg _, ⟨zp, lp, z2, x2, rfl, r1, r2⟩, ⟨⟨p1.1, fun v hv => (p2 v hv).1, l2, l3, l4⟩, ⟨p1.2, fun v hv => (p2 v hv).2⟩⟩, .cons (.bool _) (k'3j q1 (.cons (q2) (.cons (k'20 _) (.cons (k'20 _) .nil))))⟩
theorem open_cBt {fuel : Nat} {cs : List Value} {x : DataW H × List MemPlace} (h : DataW.trod enc Tryz.prog W 0 (fun _ => true) true fuel 24 cs = some x) : ∃ (v : Bt) (xd : D), v.R xd ∧ (v.ln ∧ v.wf) ∧ DRs (Fw W) xd.cells cs := by
 have hu : Tryz.prog.underlying 24 = some (.struct #[stF 24 0, stF 24 1]) := by kernel_rfl
 obtain ⟨ys, m, rfl, -, hl, hlen, hf⟩ := DataW.trod_struct hu h
 rw [show Tryz.prog.cellsOf 24 = 2 by kernel_rfl] at hl
 obtain ⟨v0, v1, rfl⟩ : ∃ v0 v1, cs = [v0, v1] := by
  match cs, hl with
  | [v0, v1], _ => exact ⟨_, _, rfl⟩
 obtain ⟨y0, f0⟩ := fld hlen hf 0 rfl (X := 22) (off := 0) (c := 1) (by kernel_rfl)
 obtain ⟨k0, z0, e0, x0, a0, r0, p0, l0, q0⟩ := k'd (by kernel_rfl) (show Tryz.prog.cellsOf 61 = 7 by kernel_rfl) (by omega) f0 (fun n _ => open_cRm n)
 obtain rfl : v0 = k0 := (List.cons.inj a0).1
 obtain ⟨s1, a1, l1⟩ := k'11 hlen hf 1 rfl (X := 9) (off := 1) (c := 1) (by kernel_rfl) (by kernel_rfl)
 obtain rfl : v1 = .string s1 := (List.cons.inj a1).1
 exact ⟨⟨e0, s1.data.toList⟩, .agg _, ⟨z0, x0, rfl, r0⟩, ⟨⟨fun v hv => (p0 v hv).1, l0, l1⟩, fun v hv => (p0 v hv).2⟩, .cons (q0) (.cons (k'20 _) .nil)⟩
theorem open_Bt {base : Nat} {v : Value} {d : DataW H} {p : List MemPlace} (hval : Value.okWide Tryz.prog W .any base 24 v) (h : DataW.Trod enc Tryz.prog W 0 (fun _ => true) true 24 v d p) :
  ∃ (x : Bt) (xd : D), x.R xd ∧ (x.ln ∧ x.wf) ∧ DR (Fw W) xd v := by
 have hu : Tryz.prog.underlying 24 = some (.struct #[stF 24 0, stF 24 1]) := by kernel_rfl
 obtain ⟨cs, rfl⟩ : ∃ cs, v = .agg cs := by
  unfold Value.okWide at hval
  rw [hu] at hval
  obtain ⟨cs, a, -⟩ := hval
  exact ⟨cs, a⟩
 obtain ⟨cs⟩ := cs
 obtain ⟨fuel, hf⟩ := h
 obtain ⟨x, xd, r, q, e⟩ := open_cBt hf
 have r' := r
 obtain ⟨_, _, rfl, -⟩ := r'
 exact ⟨x, _, r, q, .agg e⟩
end
end
