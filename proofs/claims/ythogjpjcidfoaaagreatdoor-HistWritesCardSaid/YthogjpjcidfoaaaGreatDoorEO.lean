/- Arguments: Exemplar. -/
import Derived.Test.YthogjpjcidfoaaaGreatDoorXN
import Derived.Test.YthogjpjcidfoaaaGreatDoorEV
import Derived.Deep.Strs
import Derived.ChangeSlices
import Derived.ChangeArms
set_option linter.unusedSimpArgs false
set_option linter.unusedVariables false
set_option maxRecDepth 100000
namespace Go.Proofs.YthogjpjcidfoaaaGreatDoor
open Go Go.Abs Go.ChangeShapes Go.WideShapes Go.RowKit
section
variable {H : Type} {enc : TypeId × Value → H} {W : World}
theorem open_cEm (fuel : Nat) : ∀ cs x, DataW.trod enc Tryz.prog W 0 (fun _ => true) true fuel 82 cs = some x → ∃ (v : Em) (xd : D), v.R xd ∧ (v.ln ∧ v.wf) ∧ DRs (Fw W) xd.cells cs := by
  intro cs x h
  have hu : Tryz.prog.underlying 82 = some (.struct #[stF 82 0, stF 82 1, stF 82 2, stF 82 3, stF 82 4, stF 82 5, stF 82 6]) := by kernel_rfl
  have t0 : (stF 82 0).type = 22 := by kernel_rfl
  have o0 : (stF 82 0).offset = 0 := by kernel_rfl
  have c0 : Tryz.prog.cellsOf 22 = 1 := by kernel_rfl
  have t1 : (stF 82 1).type = 23 := by kernel_rfl
  have o1 : (stF 82 1).offset = 1 := by kernel_rfl
  have c1 : Tryz.prog.cellsOf 23 = 1 := by kernel_rfl
  have t2 : (stF 82 2).type = 3 := by kernel_rfl
  have o2 : (stF 82 2).offset = 2 := by kernel_rfl
  have c2 : Tryz.prog.cellsOf 3 = 1 := by kernel_rfl
  have t3 : (stF 82 3).type = 23 := by kernel_rfl
  have o3 : (stF 82 3).offset = 3 := by kernel_rfl
  have c3 : Tryz.prog.cellsOf 23 = 1 := by kernel_rfl
  have t4 : (stF 82 4).type = 9 := by kernel_rfl
  have o4 : (stF 82 4).offset = 4 := by kernel_rfl
  have c4 : Tryz.prog.cellsOf 9 = 1 := by kernel_rfl
  have t5 : (stF 82 5).type = 9 := by kernel_rfl
  have o5 : (stF 82 5).offset = 5 := by kernel_rfl
  have c5 : Tryz.prog.cellsOf 9 = 1 := by kernel_rfl
  have t6 : (stF 82 6).type = 9 := by kernel_rfl
  have o6 : (stF 82 6).offset = 6 := by kernel_rfl
  have c6 : Tryz.prog.cellsOf 9 = 1 := by kernel_rfl
  have ca : Tryz.prog.cellsOf 82 = 7 := by kernel_rfl
  obtain ⟨ys, m, rfl, -, hl, hlen, hf⟩ := DataW.trod_struct hu h
  rw [ca] at hl
  obtain ⟨v0, v1, v2, v3, v4, v5, v6, rfl⟩ : ∃ v0 v1 v2 v3 v4 v5 v6, cs = [v0, v1, v2, v3, v4, v5, v6] := by
    match cs, hl with
    | [v0, v1, v2, v3, v4, v5, v6], _ => exact ⟨_, _, _, _, _, _, _, rfl⟩
  have f0 := hf 0 (stF 82 0) rfl
  obtain ⟨y0, hy0⟩ : ∃ y, ys[0]? = some y := ⟨_, List.getElem?_eq_getElem (by rw [hlen]; decide)⟩
  rw [t0, o0, c0, hy0] at f0
  replace f0 : DataW.trod enc Tryz.prog W 0 (fun _ => true) true m 22 [v0] = some y0 := f0
  obtain ⟨k0, z0, e0, x0, a0, r0, p0, l0, q0⟩ := open_elems (by kernel_rfl) (show Tryz.prog.cellsOf 90 = 11 by kernel_rfl) (by omega) f0 (fun n _ => (open_vk n).2)
  obtain rfl : v0 = k0 := (List.cons.inj a0).1
  have f1 := hf 1 (stF 82 1) rfl
  obtain ⟨y1, hy1⟩ : ∃ y, ys[1]? = some y := ⟨_, List.getElem?_eq_getElem (by rw [hlen]; decide)⟩
  rw [t1, o1, c1, hy1] at f1
  replace f1 : DataW.trod enc Tryz.prog W 0 (fun _ => true) true m 23 [v1] = some y1 := f1
  obtain ⟨n1, a1, -, w1⟩ := DataW.trod_int (k := .u64) (by kernel_rfl) f1
  obtain rfl : v1 = .int .u64 n1 := (List.cons.inj a1).1
  obtain ⟨lo1, hi1⟩ := u64_wf w1
  obtain ⟨n1, rfl⟩ : ∃ n : Nat, n1 = n := ⟨n1.toNat, by omega⟩
  have f2 := hf 2 (stF 82 2) rfl
  obtain ⟨y2, hy2⟩ : ∃ y, ys[2]? = some y := ⟨_, List.getElem?_eq_getElem (by rw [hlen]; decide)⟩
  rw [t2, o2, c2, hy2] at f2
  replace f2 : DataW.trod enc Tryz.prog W 0 (fun _ => true) true m 3 [v2] = some y2 := f2
  obtain ⟨n2, a2, -, w2⟩ := DataW.trod_int (k := .i64) (by kernel_rfl) f2
  obtain rfl : v2 = .int .i64 n2 := (List.cons.inj a2).1
  obtain ⟨lo2, hi2⟩ := i64_wf w2
  have f3 := hf 3 (stF 82 3) rfl
  obtain ⟨y3, hy3⟩ : ∃ y, ys[3]? = some y := ⟨_, List.getElem?_eq_getElem (by rw [hlen]; decide)⟩
  rw [t3, o3, c3, hy3] at f3
  replace f3 : DataW.trod enc Tryz.prog W 0 (fun _ => true) true m 23 [v3] = some y3 := f3
  obtain ⟨n3, a3, -, w3⟩ := DataW.trod_int (k := .u64) (by kernel_rfl) f3
  obtain rfl : v3 = .int .u64 n3 := (List.cons.inj a3).1
  obtain ⟨lo3, hi3⟩ := u64_wf w3
  obtain ⟨n3, rfl⟩ : ∃ n : Nat, n3 = n := ⟨n3.toNat, by omega⟩
  have f4 := hf 4 (stF 82 4) rfl
  obtain ⟨y4, hy4⟩ : ∃ y, ys[4]? = some y := ⟨_, List.getElem?_eq_getElem (by rw [hlen]; decide)⟩
  rw [t4, o4, c4, hy4] at f4
  replace f4 : DataW.trod enc Tryz.prog W 0 (fun _ => true) true m 9 [v4] = some y4 := f4
  obtain ⟨s4, a4, -, w4⟩ := DataW.trod_string (by kernel_rfl) f4
  obtain rfl : v4 = .string s4 := (List.cons.inj a4).1
  have l4 := ba_len w4
  have q4 := dr_str (F := Fw W) s4
  have f5 := hf 5 (stF 82 5) rfl
  obtain ⟨y5, hy5⟩ : ∃ y, ys[5]? = some y := ⟨_, List.getElem?_eq_getElem (by rw [hlen]; decide)⟩
  rw [t5, o5, c5, hy5] at f5
  replace f5 : DataW.trod enc Tryz.prog W 0 (fun _ => true) true m 9 [v5] = some y5 := f5
  obtain ⟨s5, a5, -, w5⟩ := DataW.trod_string (by kernel_rfl) f5
  obtain rfl : v5 = .string s5 := (List.cons.inj a5).1
  have l5 := ba_len w5
  have q5 := dr_str (F := Fw W) s5
  have f6 := hf 6 (stF 82 6) rfl
  obtain ⟨y6, hy6⟩ : ∃ y, ys[6]? = some y := ⟨_, List.getElem?_eq_getElem (by rw [hlen]; decide)⟩
  rw [t6, o6, c6, hy6] at f6
  replace f6 : DataW.trod enc Tryz.prog W 0 (fun _ => true) true m 9 [v6] = some y6 := f6
  obtain ⟨s6, a6, -, w6⟩ := DataW.trod_string (by kernel_rfl) f6
  obtain rfl : v6 = .string s6 := (List.cons.inj a6).1
  have l6 := ba_len w6
  have q6 := dr_str (F := Fw W) s6
  exact ⟨⟨e0, n1, n2, n3, s4.data.toList, s5.data.toList, s6.data.toList⟩, .agg _, ⟨z0, x0, rfl, Kv.Rs_of r0⟩, ⟨⟨Kv.lns_of fun v hv => (p0 v hv).1, l0, l4, l5, l6⟩, ⟨fun v hv => (p0 v hv).2, by show n1 < 2 ^ 64; omega, by show n3 < 2 ^ 64; omega⟩⟩, .cons (q0) (.cons (.int ..) (.cons (.int ..) (.cons (.int ..) (.cons (q4) (.cons (q5) (.cons (q6) .nil))))))⟩
end
end Go.Proofs.YthogjpjcidfoaaaGreatDoor
