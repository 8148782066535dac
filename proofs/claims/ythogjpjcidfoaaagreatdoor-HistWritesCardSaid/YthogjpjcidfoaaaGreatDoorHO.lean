/- Arguments: Hist. -/
import Derived.Test.YthogjpjcidfoaaaGreatDoorEO
import Derived.Test.YthogjpjcidfoaaaGreatDoorHV
import Derived.Deep.Strs
import Derived.ChangeSlices
import Derived.ChangeArms
set_option linter.unusedSimpArgs false
set_option linter.unusedVariables false
set_option maxRecDepth 100000
namespace Go.Proofs.YthogjpjcidfoaaaGreatDoor
open Go Go.Abs Go.ChangeShapes Go.WideShapes Go.RowKit
section
variable {H : Type} {enc : TypeId × Value → H} {W : World}
theorem open_cHi (fuel : Nat) : ∀ cs x, DataW.trod enc Tryz.prog W 0 (fun _ => true) true fuel 44 cs = some x → ∃ (v : Hi) (xd : D), v.R xd ∧ (v.ln ∧ v.wf) ∧ DRs (Fw W) xd.cells cs := by
  intro cs x h
  have hu : Tryz.prog.underlying 44 = some (.struct #[stF 44 0, stF 44 1, stF 44 2, stF 44 3, stF 44 4, stF 44 5, stF 44 6, stF 44 7, stF 44 8, stF 44 9, stF 44 10, stF 44 11]) := by kernel_rfl
  have t0 : (stF 44 0).type = 22 := by kernel_rfl
  have o0 : (stF 44 0).offset = 0 := by kernel_rfl
  have c0 : Tryz.prog.cellsOf 22 = 1 := by kernel_rfl
  have t1 : (stF 44 1).type = 23 := by kernel_rfl
  have o1 : (stF 44 1).offset = 1 := by kernel_rfl
  have c1 : Tryz.prog.cellsOf 23 = 1 := by kernel_rfl
  have t2 : (stF 44 2).type = 23 := by kernel_rfl
  have o2 : (stF 44 2).offset = 2 := by kernel_rfl
  have c2 : Tryz.prog.cellsOf 23 = 1 := by kernel_rfl
  have t3 : (stF 44 3).type = 23 := by kernel_rfl
  have o3 : (stF 44 3).offset = 3 := by kernel_rfl
  have c3 : Tryz.prog.cellsOf 23 = 1 := by kernel_rfl
  have t4 : (stF 44 4).type = 42 := by kernel_rfl
  have o4 : (stF 44 4).offset = 4 := by kernel_rfl
  have c4 : Tryz.prog.cellsOf 42 = 2 := by kernel_rfl
  have t5 : (stF 44 5).type = 42 := by kernel_rfl
  have o5 : (stF 44 5).offset = 6 := by kernel_rfl
  have c5 : Tryz.prog.cellsOf 42 = 2 := by kernel_rfl
  have t6 : (stF 44 6).type = 42 := by kernel_rfl
  have o6 : (stF 44 6).offset = 8 := by kernel_rfl
  have c6 : Tryz.prog.cellsOf 42 = 2 := by kernel_rfl
  have t7 : (stF 44 7).type = 39 := by kernel_rfl
  have o7 : (stF 44 7).offset = 10 := by kernel_rfl
  have c7 : Tryz.prog.cellsOf 39 = 1 := by kernel_rfl
  have t8 : (stF 44 8).type = 39 := by kernel_rfl
  have o8 : (stF 44 8).offset = 11 := by kernel_rfl
  have c8 : Tryz.prog.cellsOf 39 = 1 := by kernel_rfl
  have t9 : (stF 44 9).type = 24 := by kernel_rfl
  have o9 : (stF 44 9).offset = 12 := by kernel_rfl
  have c9 : Tryz.prog.cellsOf 24 = 1 := by kernel_rfl
  have t10 : (stF 44 10).type = 25 := by kernel_rfl
  have o10 : (stF 44 10).offset = 13 := by kernel_rfl
  have c10 : Tryz.prog.cellsOf 25 = 1 := by kernel_rfl
  have t11 : (stF 44 11).type = 9 := by kernel_rfl
  have o11 : (stF 44 11).offset = 14 := by kernel_rfl
  have c11 : Tryz.prog.cellsOf 9 = 1 := by kernel_rfl
  have ca : Tryz.prog.cellsOf 44 = 15 := by kernel_rfl
  obtain ⟨ys, m, rfl, -, hl, hlen, hf⟩ := DataW.trod_struct hu h
  rw [ca] at hl
  obtain ⟨v0, v1, v2, v3, v4, v5, v6, v7, v8, v9, v10, v11, v12, v13, v14, rfl⟩ : ∃ v0 v1 v2 v3 v4 v5 v6 v7 v8 v9 v10 v11 v12 v13 v14, cs = [v0, v1, v2, v3, v4, v5, v6, v7, v8, v9, v10, v11, v12, v13, v14] := by
    match cs, hl with
    | [v0, v1, v2, v3, v4, v5, v6, v7, v8, v9, v10, v11, v12, v13, v14], _ => exact ⟨_, _, _, _, _, _, _, _, _, _, _, _, _, _, _, rfl⟩
  have f0 := hf 0 (stF 44 0) rfl
  obtain ⟨y0, hy0⟩ : ∃ y, ys[0]? = some y := ⟨_, List.getElem?_eq_getElem (by rw [hlen]; decide)⟩
  rw [t0, o0, c0, hy0] at f0
  replace f0 : DataW.trod enc Tryz.prog W 0 (fun _ => true) true m 22 [v0] = some y0 := f0
  obtain ⟨k0, z0, e0, x0, a0, r0, p0, l0, q0⟩ := open_elems (by kernel_rfl) (show Tryz.prog.cellsOf 90 = 11 by kernel_rfl) (by omega) f0 (fun n _ => (open_vk n).2)
  obtain rfl : v0 = k0 := (List.cons.inj a0).1
  have f1 := hf 1 (stF 44 1) rfl
  obtain ⟨y1, hy1⟩ : ∃ y, ys[1]? = some y := ⟨_, List.getElem?_eq_getElem (by rw [hlen]; decide)⟩
  rw [t1, o1, c1, hy1] at f1
  replace f1 : DataW.trod enc Tryz.prog W 0 (fun _ => true) true m 23 [v1] = some y1 := f1
  obtain ⟨n1, a1, -, w1⟩ := DataW.trod_int (k := .u64) (by kernel_rfl) f1
  obtain rfl : v1 = .int .u64 n1 := (List.cons.inj a1).1
  obtain ⟨lo1, hi1⟩ := u64_wf w1
  obtain ⟨n1, rfl⟩ : ∃ n : Nat, n1 = n := ⟨n1.toNat, by omega⟩
  have f2 := hf 2 (stF 44 2) rfl
  obtain ⟨y2, hy2⟩ : ∃ y, ys[2]? = some y := ⟨_, List.getElem?_eq_getElem (by rw [hlen]; decide)⟩
  rw [t2, o2, c2, hy2] at f2
  replace f2 : DataW.trod enc Tryz.prog W 0 (fun _ => true) true m 23 [v2] = some y2 := f2
  obtain ⟨n2, a2, -, w2⟩ := DataW.trod_int (k := .u64) (by kernel_rfl) f2
  obtain rfl : v2 = .int .u64 n2 := (List.cons.inj a2).1
  obtain ⟨lo2, hi2⟩ := u64_wf w2
  obtain ⟨n2, rfl⟩ : ∃ n : Nat, n2 = n := ⟨n2.toNat, by omega⟩
  have f3 := hf 3 (stF 44 3) rfl
  obtain ⟨y3, hy3⟩ : ∃ y, ys[3]? = some y := ⟨_, List.getElem?_eq_getElem (by rw [hlen]; decide)⟩
  rw [t3, o3, c3, hy3] at f3
  replace f3 : DataW.trod enc Tryz.prog W 0 (fun _ => true) true m 23 [v3] = some y3 := f3
  obtain ⟨n3, a3, -, w3⟩ := DataW.trod_int (k := .u64) (by kernel_rfl) f3
  obtain rfl : v3 = .int .u64 n3 := (List.cons.inj a3).1
  obtain ⟨lo3, hi3⟩ := u64_wf w3
  obtain ⟨n3, rfl⟩ : ∃ n : Nat, n3 = n := ⟨n3.toNat, by omega⟩
  have f4 := hf 4 (stF 44 4) rfl
  obtain ⟨y4, hy4⟩ : ∃ y, ys[4]? = some y := ⟨_, List.getElem?_eq_getElem (by rw [hlen]; decide)⟩
  rw [t4, o4, c4, hy4] at f4
  replace f4 : DataW.trod enc Tryz.prog W 0 (fun _ => true) true m 42 [v4, v5] = some y4 := f4
  obtain ⟨e4, x4, r4, p4, q4⟩ := open_opt f4
  have f5 := hf 5 (stF 44 5) rfl
  obtain ⟨y5, hy5⟩ : ∃ y, ys[5]? = some y := ⟨_, List.getElem?_eq_getElem (by rw [hlen]; decide)⟩
  rw [t5, o5, c5, hy5] at f5
  replace f5 : DataW.trod enc Tryz.prog W 0 (fun _ => true) true m 42 [v6, v7] = some y5 := f5
  obtain ⟨e5, x5, r5, p5, q5⟩ := open_opt f5
  have f6 := hf 6 (stF 44 6) rfl
  obtain ⟨y6, hy6⟩ : ∃ y, ys[6]? = some y := ⟨_, List.getElem?_eq_getElem (by rw [hlen]; decide)⟩
  rw [t6, o6, c6, hy6] at f6
  replace f6 : DataW.trod enc Tryz.prog W 0 (fun _ => true) true m 42 [v8, v9] = some y6 := f6
  obtain ⟨e6, x6, r6, p6, q6⟩ := open_opt f6
  have f7 := hf 7 (stF 44 7) rfl
  obtain ⟨y7, hy7⟩ : ∃ y, ys[7]? = some y := ⟨_, List.getElem?_eq_getElem (by rw [hlen]; decide)⟩
  rw [t7, o7, c7, hy7] at f7
  replace f7 : DataW.trod enc Tryz.prog W 0 (fun _ => true) true m 39 [v10] = some y7 := f7
  obtain ⟨k7, z7, e7, x7, a7, r7, p7, l7, q7⟩ := open_elems (by kernel_rfl) (show Tryz.prog.cellsOf 23 = 1 by kernel_rfl) (by omega) f7 (fun n _ => open_u64 n)
  obtain rfl : v10 = k7 := (List.cons.inj a7).1
  have f8 := hf 8 (stF 44 8) rfl
  obtain ⟨y8, hy8⟩ : ∃ y, ys[8]? = some y := ⟨_, List.getElem?_eq_getElem (by rw [hlen]; decide)⟩
  rw [t8, o8, c8, hy8] at f8
  replace f8 : DataW.trod enc Tryz.prog W 0 (fun _ => true) true m 39 [v11] = some y8 := f8
  obtain ⟨k8, z8, e8, x8, a8, r8, p8, l8, q8⟩ := open_elems (by kernel_rfl) (show Tryz.prog.cellsOf 23 = 1 by kernel_rfl) (by omega) f8 (fun n _ => open_u64 n)
  obtain rfl : v11 = k8 := (List.cons.inj a8).1
  have f9 := hf 9 (stF 44 9) rfl
  obtain ⟨y9, hy9⟩ : ∃ y, ys[9]? = some y := ⟨_, List.getElem?_eq_getElem (by rw [hlen]; decide)⟩
  rw [t9, o9, c9, hy9] at f9
  replace f9 : DataW.trod enc Tryz.prog W 0 (fun _ => true) true m 24 [v12] = some y9 := f9
  obtain ⟨k9, z9, e9, x9, a9, r9, p9, l9, q9⟩ := open_elems (by kernel_rfl) (show Tryz.prog.cellsOf 82 = 7 by kernel_rfl) (by omega) f9 (fun n _ => open_cEm n)
  obtain rfl : v12 = k9 := (List.cons.inj a9).1
  have f10 := hf 10 (stF 44 10) rfl
  obtain ⟨y10, hy10⟩ : ∃ y, ys[10]? = some y := ⟨_, List.getElem?_eq_getElem (by rw [hlen]; decide)⟩
  rw [t10, o10, c10, hy10] at f10
  replace f10 : DataW.trod enc Tryz.prog W 0 (fun _ => true) true m 25 [v13] = some y10 := f10
  obtain ⟨n10, a10, -, w10⟩ := DataW.trod_int (k := .u32) (by kernel_rfl) f10
  obtain rfl : v13 = .int .u32 n10 := (List.cons.inj a10).1
  obtain ⟨lo10, hi10⟩ := u32_wf w10
  obtain ⟨n10, rfl⟩ : ∃ n : Nat, n10 = n := ⟨n10.toNat, by omega⟩
  have f11 := hf 11 (stF 44 11) rfl
  obtain ⟨y11, hy11⟩ : ∃ y, ys[11]? = some y := ⟨_, List.getElem?_eq_getElem (by rw [hlen]; decide)⟩
  rw [t11, o11, c11, hy11] at f11
  replace f11 : DataW.trod enc Tryz.prog W 0 (fun _ => true) true m 9 [v14] = some y11 := f11
  obtain ⟨s11, a11, -, w11⟩ := DataW.trod_string (by kernel_rfl) f11
  obtain rfl : v14 = .string s11 := (List.cons.inj a11).1
  have l11 := ba_len w11
  have q11 := dr_str (F := Fw W) s11
  subst r4
  subst r5
  subst r6
  obtain rfl := u_of r7
  obtain rfl := u_of r8
  exact ⟨⟨e0, n1, n2, n3, e4.1, e4.2, e5.1, e5.2, e6.1, e6.2, e7, e8, e9, n10, s11.data.toList⟩, .agg _, ⟨z0, x0, z7, z8, z9, x9, rfl, Kv.Rs_of r0, r9⟩, ⟨⟨Kv.lns_of fun v hv => (p0 v hv).1, l0, l7, l8, fun v hv => (p9 v hv).1, l9, l11⟩, ⟨fun v hv => (p0 v hv).2, by show n1 < 2 ^ 64; omega, by show n2 < 2 ^ 64; omega, by show n3 < 2 ^ 64; omega, p4, p5, p6, p7, p8, fun v hv => (p9 v hv).2, by show n10 < 4294967296; omega⟩⟩, .cons (q0) (.cons (.int ..) (.cons (.int ..) (.cons (.int ..) (DRs_app q4 (DRs_app q5 (DRs_app q6 (.cons (q7) (.cons (q8) (.cons (q9) (.cons (.int ..) (.cons (q11) .nil)))))))))))⟩
theorem open_Hi {base : Nat} {v : Value} {d : DataW H} {p : List MemPlace} (hval : Value.okWide Tryz.prog W .any base 44 v) (h : DataW.Trod enc Tryz.prog W 0 (fun _ => true) true 44 v d p) :
    ∃ (x : Hi) (xd : D), x.R xd ∧ (x.ln ∧ x.wf) ∧ DR (Fw W) xd v := by
  have hu : Tryz.prog.underlying 44 = some (.struct #[stF 44 0, stF 44 1, stF 44 2, stF 44 3, stF 44 4, stF 44 5, stF 44 6, stF 44 7, stF 44 8, stF 44 9, stF 44 10, stF 44 11]) := by kernel_rfl
  obtain ⟨cs, rfl⟩ : ∃ cs, v = .agg cs := by
    unfold Value.okWide at hval
    rw [hu] at hval
    obtain ⟨cs, a, -⟩ := hval
    exact ⟨cs, a⟩
  obtain ⟨cs⟩ := cs
  obtain ⟨fuel, hf⟩ := h
  obtain ⟨x, xd, r, q, e⟩ := open_cHi fuel _ _ hf
  obtain ⟨a0, a1, a2, a3, a4, a5, a6, a7, a8, a9, a10, a11, a12, a13, a14, a15, a16, a17, a18, rfl⟩ := Hi.R_sh r
  exact ⟨x, _, r, q, .agg e⟩
end
end Go.Proofs.YthogjpjcidfoaaaGreatDoor
