/- Arguments: Number. -/
import Derived.Test.YthogjpjcidfoaaaGreatDoorEO
import Derived.Test.YthogjpjcidfoaaaGreatDoorNV
import Derived.Deep.Strs
import Derived.ChangeSlices
import Derived.ChangeArms
set_option linter.unusedSimpArgs false
set_option linter.unusedVariables false
set_option maxRecDepth 100000
namespace Go.Proofs.YthogjpjcidfoaaaGreatDoor
open Go Go.Abs Go.ChangeShapes Go.WideShapes Go.RowKit
section
variable {H : Type} {enc : TypeId × Value → H} {W : World}
theorem open_cNb (fuel : Nat) : ∀ cs x, DataW.trod enc Tryz.prog W 0 (fun _ => true) true fuel 27 cs = some x → ∃ (v : Nb) (xd : D), v.R xd ∧ (v.ln ∧ v.wf) ∧ DRs (Fw W) xd.cells cs := by
  intro cs x h
  have hu : Tryz.prog.underlying 27 = some (.struct #[stF 27 0, stF 27 1, stF 27 2, stF 27 3, stF 27 4, stF 27 5, stF 27 6, stF 27 7]) := by kernel_rfl
  have t0 : (stF 27 0).type = 22 := by kernel_rfl
  have o0 : (stF 27 0).offset = 0 := by kernel_rfl
  have c0 : Tryz.prog.cellsOf 22 = 1 := by kernel_rfl
  have t1 : (stF 27 1).type = 23 := by kernel_rfl
  have o1 : (stF 27 1).offset = 1 := by kernel_rfl
  have c1 : Tryz.prog.cellsOf 23 = 1 := by kernel_rfl
  have t2 : (stF 27 2).type = 23 := by kernel_rfl
  have o2 : (stF 27 2).offset = 2 := by kernel_rfl
  have c2 : Tryz.prog.cellsOf 23 = 1 := by kernel_rfl
  have t3 : (stF 27 3).type = 3 := by kernel_rfl
  have o3 : (stF 27 3).offset = 3 := by kernel_rfl
  have c3 : Tryz.prog.cellsOf 3 = 1 := by kernel_rfl
  have t4 : (stF 27 4).type = 23 := by kernel_rfl
  have o4 : (stF 27 4).offset = 4 := by kernel_rfl
  have c4 : Tryz.prog.cellsOf 23 = 1 := by kernel_rfl
  have t5 : (stF 27 5).type = 24 := by kernel_rfl
  have o5 : (stF 27 5).offset = 5 := by kernel_rfl
  have c5 : Tryz.prog.cellsOf 24 = 1 := by kernel_rfl
  have t6 : (stF 27 6).type = 25 := by kernel_rfl
  have o6 : (stF 27 6).offset = 6 := by kernel_rfl
  have c6 : Tryz.prog.cellsOf 25 = 1 := by kernel_rfl
  have t7 : (stF 27 7).type = 9 := by kernel_rfl
  have o7 : (stF 27 7).offset = 7 := by kernel_rfl
  have c7 : Tryz.prog.cellsOf 9 = 1 := by kernel_rfl
  have ca : Tryz.prog.cellsOf 27 = 8 := by kernel_rfl
  obtain ⟨ys, m, rfl, -, hl, hlen, hf⟩ := DataW.trod_struct hu h
  rw [ca] at hl
  obtain ⟨v0, v1, v2, v3, v4, v5, v6, v7, rfl⟩ : ∃ v0 v1 v2 v3 v4 v5 v6 v7, cs = [v0, v1, v2, v3, v4, v5, v6, v7] := by
    match cs, hl with
    | [v0, v1, v2, v3, v4, v5, v6, v7], _ => exact ⟨_, _, _, _, _, _, _, _, rfl⟩
  have f0 := hf 0 (stF 27 0) rfl
  obtain ⟨y0, hy0⟩ : ∃ y, ys[0]? = some y := ⟨_, List.getElem?_eq_getElem (by rw [hlen]; decide)⟩
  rw [t0, o0, c0, hy0] at f0
  replace f0 : DataW.trod enc Tryz.prog W 0 (fun _ => true) true m 22 [v0] = some y0 := f0
  obtain ⟨k0, z0, e0, x0, a0, r0, p0, l0, q0⟩ := open_elems (by kernel_rfl) (show Tryz.prog.cellsOf 90 = 11 by kernel_rfl) (by omega) f0 (fun n _ => (open_vk n).2)
  obtain rfl : v0 = k0 := (List.cons.inj a0).1
  have f1 := hf 1 (stF 27 1) rfl
  obtain ⟨y1, hy1⟩ : ∃ y, ys[1]? = some y := ⟨_, List.getElem?_eq_getElem (by rw [hlen]; decide)⟩
  rw [t1, o1, c1, hy1] at f1
  replace f1 : DataW.trod enc Tryz.prog W 0 (fun _ => true) true m 23 [v1] = some y1 := f1
  obtain ⟨n1, a1, -, w1⟩ := DataW.trod_int (k := .u64) (by kernel_rfl) f1
  obtain rfl : v1 = .int .u64 n1 := (List.cons.inj a1).1
  obtain ⟨lo1, hi1⟩ := u64_wf w1
  obtain ⟨n1, rfl⟩ : ∃ n : Nat, n1 = n := ⟨n1.toNat, by omega⟩
  have f2 := hf 2 (stF 27 2) rfl
  obtain ⟨y2, hy2⟩ : ∃ y, ys[2]? = some y := ⟨_, List.getElem?_eq_getElem (by rw [hlen]; decide)⟩
  rw [t2, o2, c2, hy2] at f2
  replace f2 : DataW.trod enc Tryz.prog W 0 (fun _ => true) true m 23 [v2] = some y2 := f2
  obtain ⟨n2, a2, -, w2⟩ := DataW.trod_int (k := .u64) (by kernel_rfl) f2
  obtain rfl : v2 = .int .u64 n2 := (List.cons.inj a2).1
  obtain ⟨lo2, hi2⟩ := u64_wf w2
  obtain ⟨n2, rfl⟩ : ∃ n : Nat, n2 = n := ⟨n2.toNat, by omega⟩
  have f3 := hf 3 (stF 27 3) rfl
  obtain ⟨y3, hy3⟩ : ∃ y, ys[3]? = some y := ⟨_, List.getElem?_eq_getElem (by rw [hlen]; decide)⟩
  rw [t3, o3, c3, hy3] at f3
  replace f3 : DataW.trod enc Tryz.prog W 0 (fun _ => true) true m 3 [v3] = some y3 := f3
  obtain ⟨n3, a3, -, w3⟩ := DataW.trod_int (k := .i64) (by kernel_rfl) f3
  obtain rfl : v3 = .int .i64 n3 := (List.cons.inj a3).1
  obtain ⟨lo3, hi3⟩ := i64_wf w3
  have f4 := hf 4 (stF 27 4) rfl
  obtain ⟨y4, hy4⟩ : ∃ y, ys[4]? = some y := ⟨_, List.getElem?_eq_getElem (by rw [hlen]; decide)⟩
  rw [t4, o4, c4, hy4] at f4
  replace f4 : DataW.trod enc Tryz.prog W 0 (fun _ => true) true m 23 [v4] = some y4 := f4
  obtain ⟨n4, a4, -, w4⟩ := DataW.trod_int (k := .u64) (by kernel_rfl) f4
  obtain rfl : v4 = .int .u64 n4 := (List.cons.inj a4).1
  obtain ⟨lo4, hi4⟩ := u64_wf w4
  obtain ⟨n4, rfl⟩ : ∃ n : Nat, n4 = n := ⟨n4.toNat, by omega⟩
  have f5 := hf 5 (stF 27 5) rfl
  obtain ⟨y5, hy5⟩ : ∃ y, ys[5]? = some y := ⟨_, List.getElem?_eq_getElem (by rw [hlen]; decide)⟩
  rw [t5, o5, c5, hy5] at f5
  replace f5 : DataW.trod enc Tryz.prog W 0 (fun _ => true) true m 24 [v5] = some y5 := f5
  obtain ⟨k5, z5, e5, x5, a5, r5, p5, l5, q5⟩ := open_elems (by kernel_rfl) (show Tryz.prog.cellsOf 82 = 7 by kernel_rfl) (by omega) f5 (fun n _ => open_cEm n)
  obtain rfl : v5 = k5 := (List.cons.inj a5).1
  have f6 := hf 6 (stF 27 6) rfl
  obtain ⟨y6, hy6⟩ : ∃ y, ys[6]? = some y := ⟨_, List.getElem?_eq_getElem (by rw [hlen]; decide)⟩
  rw [t6, o6, c6, hy6] at f6
  replace f6 : DataW.trod enc Tryz.prog W 0 (fun _ => true) true m 25 [v6] = some y6 := f6
  obtain ⟨n6, a6, -, w6⟩ := DataW.trod_int (k := .u32) (by kernel_rfl) f6
  obtain rfl : v6 = .int .u32 n6 := (List.cons.inj a6).1
  obtain ⟨lo6, hi6⟩ := u32_wf w6
  obtain ⟨n6, rfl⟩ : ∃ n : Nat, n6 = n := ⟨n6.toNat, by omega⟩
  have f7 := hf 7 (stF 27 7) rfl
  obtain ⟨y7, hy7⟩ : ∃ y, ys[7]? = some y := ⟨_, List.getElem?_eq_getElem (by rw [hlen]; decide)⟩
  rw [t7, o7, c7, hy7] at f7
  replace f7 : DataW.trod enc Tryz.prog W 0 (fun _ => true) true m 9 [v7] = some y7 := f7
  obtain ⟨s7, a7, -, w7⟩ := DataW.trod_string (by kernel_rfl) f7
  obtain rfl : v7 = .string s7 := (List.cons.inj a7).1
  have l7 := ba_len w7
  have q7 := dr_str (F := Fw W) s7
  exact ⟨⟨e0, n1, n2, n3, n4, e5, n6, s7.data.toList⟩, .agg _, ⟨z0, x0, z5, x5, rfl, Kv.Rs_of r0, r5⟩, ⟨⟨Kv.lns_of fun v hv => (p0 v hv).1, l0, fun v hv => (p5 v hv).1, l5, l7⟩, ⟨fun v hv => (p0 v hv).2, by show n1 < 2 ^ 64; omega, by show n2 < 2 ^ 64; omega, by show n4 < 2 ^ 64; omega, fun v hv => (p5 v hv).2, by show n6 < 4294967296; omega⟩⟩, .cons (q0) (.cons (.int ..) (.cons (.int ..) (.cons (.int ..) (.cons (.int ..) (.cons (q5) (.cons (.int ..) (.cons (q7) .nil)))))))⟩
theorem open_Nb {base : Nat} {v : Value} {d : DataW H} {p : List MemPlace} (hval : Value.okWide Tryz.prog W .any base 27 v) (h : DataW.Trod enc Tryz.prog W 0 (fun _ => true) true 27 v d p) :
    ∃ (x : Nb) (xd : D), x.R xd ∧ (x.ln ∧ x.wf) ∧ DR (Fw W) xd v := by
  have hu : Tryz.prog.underlying 27 = some (.struct #[stF 27 0, stF 27 1, stF 27 2, stF 27 3, stF 27 4, stF 27 5, stF 27 6, stF 27 7]) := by kernel_rfl
  obtain ⟨cs, rfl⟩ : ∃ cs, v = .agg cs := by
    unfold Value.okWide at hval
    rw [hu] at hval
    obtain ⟨cs, a, -⟩ := hval
    exact ⟨cs, a⟩
  obtain ⟨cs⟩ := cs
  obtain ⟨fuel, hf⟩ := h
  obtain ⟨x, xd, r, q, e⟩ := open_cNb fuel _ _ hf
  obtain ⟨a0, a1, a2, a3, a4, a5, a6, a7, a8, a9, rfl⟩ := Nb.R_sh r
  exact ⟨x, _, r, q, .agg e⟩
end
end Go.Proofs.YthogjpjcidfoaaaGreatDoor
