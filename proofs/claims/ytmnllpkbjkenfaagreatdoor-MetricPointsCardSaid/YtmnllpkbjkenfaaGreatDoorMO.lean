/- Arguments: Metric. -/
import Derived.Test.YtmnllpkbjkenfaaGreatDoorNO
import Derived.Test.YtmnllpkbjkenfaaGreatDoorHO
import Derived.Test.YtmnllpkbjkenfaaGreatDoorQO
import Derived.Test.YtmnllpkbjkenfaaGreatDoorSO
import Derived.Test.YtmnllpkbjkenfaaGreatDoorMV
import Derived.Deep.Strs
import Derived.ChangeSlices
import Derived.ChangeArms
set_option linter.unusedSimpArgs false
set_option linter.unusedVariables false
set_option maxRecDepth 100000
namespace Go.Proofs.YtmnllpkbjkenfaaGreatDoor
open Go Go.Abs Go.ChangeShapes Go.WideShapes Go.RowKit
section
variable {H : Type} {enc : TypeId × Value → H} {W : World}
theorem open_cMe (fuel : Nat) : ∀ cs x, DataW.trod enc Tryz.prog W 0 (fun _ => true) true fuel 29 cs = some x → ∃ (v : Me) (xd : D), v.R xd ∧ (v.ln ∧ v.wf) ∧ DRs (Fw W) xd.cells cs := by
 intro cs x h
 have hu : Tryz.prog.underlying 29 = some (.struct #[stF 29 0, stF 29 1, stF 29 2, stF 29 3, stF 29 4, stF 29 5, stF 29 6, stF 29 7, stF 29 8, stF 29 9, stF 29 10, stF 29 11, stF 29 12]) := by kernel_rfl
 obtain ⟨ys, m, rfl, -, hl, hlen, hf⟩ := DataW.trod_struct hu h
 rw [show Tryz.prog.cellsOf 29 = 13 by kernel_rfl] at hl
 obtain ⟨v0, v1, v2, v3, v4, v5, v6, v7, v8, v9, v10, v11, v12, rfl⟩ : ∃ v0 v1 v2 v3 v4 v5 v6 v7 v8 v9 v10 v11 v12, cs = [v0, v1, v2, v3, v4, v5, v6, v7, v8, v9, v10, v11, v12] := by
  match cs, hl with
  | [v0, v1, v2, v3, v4, v5, v6, v7, v8, v9, v10, v11, v12], _ => exact ⟨_, _, _, _, _, _, _, _, _, _, _, _, _, rfl⟩
 obtain ⟨s0, a0, l0⟩ := k'1w hlen hf 0 rfl (X := 9) (off := 0) (c := 1) (by kernel_rfl) (by kernel_rfl)
 obtain rfl : v0 = .string s0 := (List.cons.inj a0).1
 obtain ⟨s1, a1, l1⟩ := k'1w hlen hf 1 rfl (X := 9) (off := 1) (c := 1) (by kernel_rfl) (by kernel_rfl)
 obtain rfl : v1 = .string s1 := (List.cons.inj a1).1
 obtain ⟨s2, a2, l2⟩ := k'1w hlen hf 2 rfl (X := 9) (off := 2) (c := 1) (by kernel_rfl) (by kernel_rfl)
 obtain rfl : v2 = .string s2 := (List.cons.inj a2).1
 obtain ⟨n3, a3, lo3, hi3⟩ := fld_i64 hlen hf 3 rfl (X := 3) (off := 3) (c := 1) (by kernel_rfl) (by kernel_rfl)
 obtain rfl : v3 = .int .i64 n3 := (List.cons.inj a3).1
 obtain ⟨n4, a4, lo4, hi4⟩ := fld_i32 hlen hf 4 rfl (X := 21) (off := 4) (c := 1) (by kernel_rfl) (by kernel_rfl)
 obtain rfl : v4 = .int .i32 n4 := (List.cons.inj a4).1
 obtain ⟨b5, a5⟩ := fld_bool hlen hf 5 rfl (X := 4) (off := 5) (c := 1) (by kernel_rfl) (by kernel_rfl)
 obtain rfl : v5 = .bool b5 := (List.cons.inj a5).1
 obtain ⟨y6, f6⟩ := fld hlen hf 6 rfl (X := 23) (off := 6) (c := 1) (by kernel_rfl)
 obtain ⟨k6, z6, e6, x6, a6, r6, p6, l6, q6⟩ := k'f (by kernel_rfl) (show Tryz.prog.cellsOf 81 = 8 by kernel_rfl) (by omega) f6 (fun n _ => open_cNb n)
 obtain rfl : v6 = k6 := (List.cons.inj a6).1
 obtain ⟨y7, f7⟩ := fld hlen hf 7 rfl (X := 24) (off := 7) (c := 1) (by kernel_rfl)
 obtain ⟨k7, z7, e7, x7, a7, r7, p7, l7, q7⟩ := k'f (by kernel_rfl) (show Tryz.prog.cellsOf 87 = 15 by kernel_rfl) (by omega) f7 (fun n _ => open_cHi n)
 obtain rfl : v7 = k7 := (List.cons.inj a7).1
 obtain ⟨y8, f8⟩ := fld hlen hf 8 rfl (X := 25) (off := 8) (c := 1) (by kernel_rfl)
 obtain ⟨k8, z8, e8, x8, a8, r8, p8, l8, q8⟩ := k'f (by kernel_rfl) (show Tryz.prog.cellsOf 92 = 24 by kernel_rfl) (by omega) f8 (fun n _ => open_cEh n)
 obtain rfl : v8 = k8 := (List.cons.inj a8).1
 obtain ⟨y9, f9⟩ := fld hlen hf 9 rfl (X := 26) (off := 9) (c := 1) (by kernel_rfl)
 obtain ⟨k9, z9, e9, x9, a9, r9, p9, l9, q9⟩ := k'f (by kernel_rfl) (show Tryz.prog.cellsOf 96 = 8 by kernel_rfl) (by omega) f9 (fun n _ => open_cSu n)
 obtain rfl : v9 = k9 := (List.cons.inj a9).1
 obtain ⟨y10, f10⟩ := fld hlen hf 10 rfl (X := 27) (off := 10) (c := 1) (by kernel_rfl)
 obtain ⟨k10, z10, e10, x10, a10, r10, p10, l10, q10⟩ := k'f (by kernel_rfl) (show Tryz.prog.cellsOf 70 = 11 by kernel_rfl) (by omega) f10 (fun n _ => (open_vk n).2)
 obtain rfl : v10 = k10 := (List.cons.inj a10).1
 obtain ⟨s11, a11, l11⟩ := k'1w hlen hf 11 rfl (X := 9) (off := 11) (c := 1) (by kernel_rfl) (by kernel_rfl)
 obtain rfl : v11 = .string s11 := (List.cons.inj a11).1
 obtain ⟨s12, a12, l12⟩ := k'1w hlen hf 12 rfl (X := 9) (off := 12) (c := 1) (by kernel_rfl) (by kernel_rfl)
 obtain rfl : v12 = .string s12 := (List.cons.inj a12).1
 exact ⟨⟨s0.data.toList, s1.data.toList, s2.data.toList, n3, ⟨e6, e7, e8, e9, n4, b5, s11.data.toList⟩, e10, s12.data.toList⟩, .agg _, ⟨z6, x6, z7, x7, z8, x8, z9, x9, z10, x10, rfl, r6, r7, r8, r9, Kv.Rs_of r10⟩, ⟨⟨l0, l1, l2, ⟨fun v hv => (p6 v hv).1, l6, fun v hv => (p7 v hv).1, l7, fun v hv => (p8 v hv).1, l8, fun v hv => (p9 v hv).1, l9, l11⟩, Kv.lns_of fun v hv => (p10 v hv).1, l10, l12⟩, ⟨⟨fun v hv => (p6 v hv).2, fun v hv => (p7 v hv).2, fun v hv => (p8 v hv).2, fun v hv => (p9 v hv).2, lo4, by omega⟩, fun v hv => (p10 v hv).2⟩⟩, .cons (k'39 _) (.cons (k'39 _) (.cons (k'39 _) (.cons (.int ..) (.cons (.int ..) (.cons (.bool _) (.cons (q6) (.cons (q7) (.cons (q8) (.cons (q9) (.cons (q10) (.cons (k'39 _) (.cons (k'39 _) .nil))))))))))))⟩
theorem open_Me {base : Nat} {v : Value} {d : DataW H} {p : List MemPlace} (hval : Value.okWide Tryz.prog W .any base 29 v) (h : DataW.Trod enc Tryz.prog W 0 (fun _ => true) true 29 v d p) :
  ∃ (x : Me) (xd : D), x.R xd ∧ (x.ln ∧ x.wf) ∧ DR (Fw W) xd v := by
 have hu : Tryz.prog.underlying 29 = some (.struct #[stF 29 0, stF 29 1, stF 29 2, stF 29 3, stF 29 4, stF 29 5, stF 29 6, stF 29 7, stF 29 8, stF 29 9, stF 29 10, stF 29 11, stF 29 12]) := by kernel_rfl
 obtain ⟨cs, rfl⟩ : ∃ cs, v = .agg cs := by
  unfold Value.okWide at hval
  rw [hu] at hval
  obtain ⟨cs, a, -⟩ := hval
  exact ⟨cs, a⟩
 obtain ⟨cs⟩ := cs
 obtain ⟨fuel, hf⟩ := h
 obtain ⟨x, xd, r, q, e⟩ := open_cMe fuel _ _ hf
 have r' := r
 obtain ⟨_, _, _, _, _, _, _, _, _, _, rfl, -⟩ := r'
 exact ⟨x, _, r, q, .agg e⟩
end
