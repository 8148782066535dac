/- Arguments: Exp. -/
import Derived.Test.YtcinfkbdmjnjlaaGreatDoorEO
import Derived.Test.YtcinfkbdmjnjlaaGreatDoorQV
import Derived.Deep.Strs
import Derived.ChangeSlices
import Derived.ChangeArms
set_option linter.unusedSimpArgs false
set_option linter.unusedVariables false
set_option maxRecDepth 100000
namespace Go.Proofs.YtcinfkbdmjnjlaaGreatDoor
open Go Go.Abs Go.ChangeShapes Go.WideShapes Go.RowKit
section
variable {H : Type} {enc : TypeId × Value → H} {W : World}
theorem open_cEh (fuel : Nat) : ∀ cs x, DataW.trod enc Tryz.prog W 0 (fun _ => true) true fuel 33 cs = some x → ∃ (v : Eh) (xd : D), v.R xd ∧ (v.ln ∧ v.wf) ∧ DRs (Fw W) xd.cells cs := by
  intro cs x h
  have hu : Tryz.prog.underlying 33 = some (.struct #[stF 33 0, stF 33 1, stF 33 2, stF 33 3, stF 33 4, stF 33 5, stF 33 6, stF 33 7, stF 33 8, stF 33 9, stF 33 10, stF 33 11, stF 33 12, stF 33 13, stF 33 14, stF 33 15, stF 33 16]) := by kernel_rfl
  have t0 : (stF 33 0).type = 23 := by kernel_rfl
  have o0 : (stF 33 0).offset = 0 := by kernel_rfl
  have c0 : Tryz.prog.cellsOf 23 = 1 := by kernel_rfl
  have t1 : (stF 33 1).type = 24 := by kernel_rfl
  have o1 : (stF 33 1).offset = 1 := by kernel_rfl
  have c1 : Tryz.prog.cellsOf 24 = 1 := by kernel_rfl
  have t2 : (stF 33 2).type = 24 := by kernel_rfl
  have o2 : (stF 33 2).offset = 2 := by kernel_rfl
  have c2 : Tryz.prog.cellsOf 24 = 1 := by kernel_rfl
  have t3 : (stF 33 3).type = 24 := by kernel_rfl
  have o3 : (stF 33 3).offset = 3 := by kernel_rfl
  have c3 : Tryz.prog.cellsOf 24 = 1 := by kernel_rfl
  have t4 : (stF 33 4).type = 26 := by kernel_rfl
  have o4 : (stF 33 4).offset = 4 := by kernel_rfl
  have c4 : Tryz.prog.cellsOf 26 = 2 := by kernel_rfl
  have t5 : (stF 33 5).type = 26 := by kernel_rfl
  have o5 : (stF 33 5).offset = 6 := by kernel_rfl
  have c5 : Tryz.prog.cellsOf 26 = 2 := by kernel_rfl
  have t6 : (stF 33 6).type = 26 := by kernel_rfl
  have o6 : (stF 33 6).offset = 8 := by kernel_rfl
  have c6 : Tryz.prog.cellsOf 26 = 2 := by kernel_rfl
  have t7 : (stF 33 7).type = 21 := by kernel_rfl
  have o7 : (stF 33 7).offset = 10 := by kernel_rfl
  have c7 : Tryz.prog.cellsOf 21 = 1 := by kernel_rfl
  have t8 : (stF 33 8).type = 24 := by kernel_rfl
  have o8 : (stF 33 8).offset = 11 := by kernel_rfl
  have c8 : Tryz.prog.cellsOf 24 = 1 := by kernel_rfl
  have t9 : (stF 33 9).type = 4 := by kernel_rfl
  have o9 : (stF 33 9).offset = 12 := by kernel_rfl
  have c9 : Tryz.prog.cellsOf 4 = 1 := by kernel_rfl
  have t10 : (stF 33 10).type = 29 := by kernel_rfl
  have o10 : (stF 33 10).offset = 13 := by kernel_rfl
  have c10 : Tryz.prog.cellsOf 29 = 3 := by kernel_rfl
  have t11 : (stF 33 11).type = 4 := by kernel_rfl
  have o11 : (stF 33 11).offset = 16 := by kernel_rfl
  have c11 : Tryz.prog.cellsOf 4 = 1 := by kernel_rfl
  have t12 : (stF 33 12).type = 29 := by kernel_rfl
  have o12 : (stF 33 12).offset = 17 := by kernel_rfl
  have c12 : Tryz.prog.cellsOf 29 = 3 := by kernel_rfl
  have t13 : (stF 33 13).type = 30 := by kernel_rfl
  have o13 : (stF 33 13).offset = 20 := by kernel_rfl
  have c13 : Tryz.prog.cellsOf 30 = 1 := by kernel_rfl
  have t14 : (stF 33 14).type = 31 := by kernel_rfl
  have o14 : (stF 33 14).offset = 21 := by kernel_rfl
  have c14 : Tryz.prog.cellsOf 31 = 1 := by kernel_rfl
  have t15 : (stF 33 15).type = 24 := by kernel_rfl
  have o15 : (stF 33 15).offset = 22 := by kernel_rfl
  have c15 : Tryz.prog.cellsOf 24 = 1 := by kernel_rfl
  have t16 : (stF 33 16).type = 9 := by kernel_rfl
  have o16 : (stF 33 16).offset = 23 := by kernel_rfl
  have c16 : Tryz.prog.cellsOf 9 = 1 := by kernel_rfl
  have ca : Tryz.prog.cellsOf 33 = 24 := by kernel_rfl
  obtain ⟨ys, m, rfl, -, hl, hlen, hf⟩ := DataW.trod_struct hu h
  rw [ca] at hl
  obtain ⟨v0, v1, v2, v3, v4, v5, v6, v7, v8, v9, v10, v11, v12, v13, v14, v15, v16, v17, v18, v19, v20, v21, v22, v23, rfl⟩ : ∃ v0 v1 v2 v3 v4 v5 v6 v7 v8 v9 v10 v11 v12 v13 v14 v15 v16 v17 v18 v19 v20 v21 v22 v23, cs = [v0, v1, v2, v3, v4, v5, v6, v7, v8, v9, v10, v11, v12, v13, v14, v15, v16, v17, v18, v19, v20, v21, v22, v23] := by
    match cs, hl with
    | [v0, v1, v2, v3, v4, v5, v6, v7, v8, v9, v10, v11, v12, v13, v14, v15, v16, v17, v18, v19, v20, v21, v22, v23], _ => exact ⟨_, _, _, _, _, _, _, _, _, _, _, _, _, _, _, _, _, _, _, _, _, _, _, _, rfl⟩
  have f0 := hf 0 (stF 33 0) rfl
  obtain ⟨y0, hy0⟩ : ∃ y, ys[0]? = some y := ⟨_, List.getElem?_eq_getElem (by rw [hlen]; decide)⟩
  rw [t0, o0, c0, hy0] at f0
  replace f0 : DataW.trod enc Tryz.prog W 0 (fun _ => true) true m 23 [v0] = some y0 := f0
  obtain ⟨k0, z0, e0, x0, a0, r0, p0, l0, q0⟩ := open_elems (by kernel_rfl) (show Tryz.prog.cellsOf 65 = 11 by kernel_rfl) (by omega) f0 (fun n _ => (open_vk n).2)
  obtain rfl : v0 = k0 := (List.cons.inj a0).1
  have f1 := hf 1 (stF 33 1) rfl
  obtain ⟨y1, hy1⟩ : ∃ y, ys[1]? = some y := ⟨_, List.getElem?_eq_getElem (by rw [hlen]; decide)⟩
  rw [t1, o1, c1, hy1] at f1
  replace f1 : DataW.trod enc Tryz.prog W 0 (fun _ => true) true m 24 [v1] = some y1 := f1
  obtain ⟨n1, a1, -, w1⟩ := DataW.trod_int (k := .u64) (by kernel_rfl) f1
  obtain rfl : v1 = .int .u64 n1 := (List.cons.inj a1).1
  obtain ⟨lo1, hi1⟩ := u64_wf w1
  obtain ⟨n1, rfl⟩ : ∃ n : Nat, n1 = n := ⟨n1.toNat, by omega⟩
  have f2 := hf 2 (stF 33 2) rfl
  obtain ⟨y2, hy2⟩ : ∃ y, ys[2]? = some y := ⟨_, List.getElem?_eq_getElem (by rw [hlen]; decide)⟩
  rw [t2, o2, c2, hy2] at f2
  replace f2 : DataW.trod enc Tryz.prog W 0 (fun _ => true) true m 24 [v2] = some y2 := f2
  obtain ⟨n2, a2, -, w2⟩ := DataW.trod_int (k := .u64) (by kernel_rfl) f2
  obtain rfl : v2 = .int .u64 n2 := (List.cons.inj a2).1
  obtain ⟨lo2, hi2⟩ := u64_wf w2
  obtain ⟨n2, rfl⟩ : ∃ n : Nat, n2 = n := ⟨n2.toNat, by omega⟩
  have f3 := hf 3 (stF 33 3) rfl
  obtain ⟨y3, hy3⟩ : ∃ y, ys[3]? = some y := ⟨_, List.getElem?_eq_getElem (by rw [hlen]; decide)⟩
  rw [t3, o3, c3, hy3] at f3
  replace f3 : DataW.trod enc Tryz.prog W 0 (fun _ => true) true m 24 [v3] = some y3 := f3
  obtain ⟨n3, a3, -, w3⟩ := DataW.trod_int (k := .u64) (by kernel_rfl) f3
  obtain rfl : v3 = .int .u64 n3 := (List.cons.inj a3).1
  obtain ⟨lo3, hi3⟩ := u64_wf w3
  obtain ⟨n3, rfl⟩ : ∃ n : Nat, n3 = n := ⟨n3.toNat, by omega⟩
  have f4 := hf 4 (stF 33 4) rfl
  obtain ⟨y4, hy4⟩ : ∃ y, ys[4]? = some y := ⟨_, List.getElem?_eq_getElem (by rw [hlen]; decide)⟩
  rw [t4, o4, c4, hy4] at f4
  replace f4 : DataW.trod enc Tryz.prog W 0 (fun _ => true) true m 26 [v4, v5] = some y4 := f4
  obtain ⟨e4, x4, r4, p4, q4⟩ := open_opt f4
  have f5 := hf 5 (stF 33 5) rfl
  obtain ⟨y5, hy5⟩ : ∃ y, ys[5]? = some y := ⟨_, List.getElem?_eq_getElem (by rw [hlen]; decide)⟩
  rw [t5, o5, c5, hy5] at f5
  replace f5 : DataW.trod enc Tryz.prog W 0 (fun _ => true) true m 26 [v6, v7] = some y5 := f5
  obtain ⟨e5, x5, r5, p5, q5⟩ := open_opt f5
  have f6 := hf 6 (stF 33 6) rfl
  obtain ⟨y6, hy6⟩ : ∃ y, ys[6]? = some y := ⟨_, List.getElem?_eq_getElem (by rw [hlen]; decide)⟩
  rw [t6, o6, c6, hy6] at f6
  replace f6 : DataW.trod enc Tryz.prog W 0 (fun _ => true) true m 26 [v8, v9] = some y6 := f6
  obtain ⟨e6, x6, r6, p6, q6⟩ := open_opt f6
  have f7 := hf 7 (stF 33 7) rfl
  obtain ⟨y7, hy7⟩ : ∃ y, ys[7]? = some y := ⟨_, List.getElem?_eq_getElem (by rw [hlen]; decide)⟩
  rw [t7, o7, c7, hy7] at f7
  replace f7 : DataW.trod enc Tryz.prog W 0 (fun _ => true) true m 21 [v10] = some y7 := f7
  obtain ⟨n7, a7, -, w7⟩ := DataW.trod_int (k := .i32) (by kernel_rfl) f7
  obtain rfl : v10 = .int .i32 n7 := (List.cons.inj a7).1
  obtain ⟨lo7, hi7⟩ := i32_wf w7
  have f8 := hf 8 (stF 33 8) rfl
  obtain ⟨y8, hy8⟩ : ∃ y, ys[8]? = some y := ⟨_, List.getElem?_eq_getElem (by rw [hlen]; decide)⟩
  rw [t8, o8, c8, hy8] at f8
  replace f8 : DataW.trod enc Tryz.prog W 0 (fun _ => true) true m 24 [v11] = some y8 := f8
  obtain ⟨n8, a8, -, w8⟩ := DataW.trod_int (k := .u64) (by kernel_rfl) f8
  obtain rfl : v11 = .int .u64 n8 := (List.cons.inj a8).1
  obtain ⟨lo8, hi8⟩ := u64_wf w8
  obtain ⟨n8, rfl⟩ : ∃ n : Nat, n8 = n := ⟨n8.toNat, by omega⟩
  have f9 := hf 9 (stF 33 9) rfl
  obtain ⟨y9, hy9⟩ : ∃ y, ys[9]? = some y := ⟨_, List.getElem?_eq_getElem (by rw [hlen]; decide)⟩
  rw [t9, o9, c9, hy9] at f9
  replace f9 : DataW.trod enc Tryz.prog W 0 (fun _ => true) true m 4 [v12] = some y9 := f9
  obtain ⟨b9, a9, -⟩ := DataW.trod_bool (by kernel_rfl) f9
  obtain rfl : v12 = .bool b9 := (List.cons.inj a9).1
  have f10 := hf 10 (stF 33 10) rfl
  obtain ⟨y10, hy10⟩ : ∃ y, ys[10]? = some y := ⟨_, List.getElem?_eq_getElem (by rw [hlen]; decide)⟩
  rw [t10, o10, c10, hy10] at f10
  replace f10 : DataW.trod enc Tryz.prog W 0 (fun _ => true) true m 29 [v13, v14, v15] = some y10 := f10
  obtain ⟨e10, x10, r10, p10, q10⟩ := open_bk f10
  have f11 := hf 11 (stF 33 11) rfl
  obtain ⟨y11, hy11⟩ : ∃ y, ys[11]? = some y := ⟨_, List.getElem?_eq_getElem (by rw [hlen]; decide)⟩
  rw [t11, o11, c11, hy11] at f11
  replace f11 : DataW.trod enc Tryz.prog W 0 (fun _ => true) true m 4 [v16] = some y11 := f11
  obtain ⟨b11, a11, -⟩ := DataW.trod_bool (by kernel_rfl) f11
  obtain rfl : v16 = .bool b11 := (List.cons.inj a11).1
  have f12 := hf 12 (stF 33 12) rfl
  obtain ⟨y12, hy12⟩ : ∃ y, ys[12]? = some y := ⟨_, List.getElem?_eq_getElem (by rw [hlen]; decide)⟩
  rw [t12, o12, c12, hy12] at f12
  replace f12 : DataW.trod enc Tryz.prog W 0 (fun _ => true) true m 29 [v17, v18, v19] = some y12 := f12
  obtain ⟨e12, x12, r12, p12, q12⟩ := open_bk f12
  have f13 := hf 13 (stF 33 13) rfl
  obtain ⟨y13, hy13⟩ : ∃ y, ys[13]? = some y := ⟨_, List.getElem?_eq_getElem (by rw [hlen]; decide)⟩
  rw [t13, o13, c13, hy13] at f13
  replace f13 : DataW.trod enc Tryz.prog W 0 (fun _ => true) true m 30 [v20] = some y13 := f13
  obtain ⟨k13, z13, e13, x13, a13, r13, p13, l13, q13⟩ := open_elems (by kernel_rfl) (show Tryz.prog.cellsOf 72 = 7 by kernel_rfl) (by omega) f13 (fun n _ => open_cEm n)
  obtain rfl : v20 = k13 := (List.cons.inj a13).1
  have f14 := hf 14 (stF 33 14) rfl
  obtain ⟨y14, hy14⟩ : ∃ y, ys[14]? = some y := ⟨_, List.getElem?_eq_getElem (by rw [hlen]; decide)⟩
  rw [t14, o14, c14, hy14] at f14
  replace f14 : DataW.trod enc Tryz.prog W 0 (fun _ => true) true m 31 [v21] = some y14 := f14
  obtain ⟨n14, a14, -, w14⟩ := DataW.trod_int (k := .u32) (by kernel_rfl) f14
  obtain rfl : v21 = .int .u32 n14 := (List.cons.inj a14).1
  obtain ⟨lo14, hi14⟩ := u32_wf w14
  obtain ⟨n14, rfl⟩ : ∃ n : Nat, n14 = n := ⟨n14.toNat, by omega⟩
  have f15 := hf 15 (stF 33 15) rfl
  obtain ⟨y15, hy15⟩ : ∃ y, ys[15]? = some y := ⟨_, List.getElem?_eq_getElem (by rw [hlen]; decide)⟩
  rw [t15, o15, c15, hy15] at f15
  replace f15 : DataW.trod enc Tryz.prog W 0 (fun _ => true) true m 24 [v22] = some y15 := f15
  obtain ⟨n15, a15, -, w15⟩ := DataW.trod_int (k := .u64) (by kernel_rfl) f15
  obtain rfl : v22 = .int .u64 n15 := (List.cons.inj a15).1
  obtain ⟨lo15, hi15⟩ := u64_wf w15
  obtain ⟨n15, rfl⟩ : ∃ n : Nat, n15 = n := ⟨n15.toNat, by omega⟩
  have f16 := hf 16 (stF 33 16) rfl
  obtain ⟨y16, hy16⟩ : ∃ y, ys[16]? = some y := ⟨_, List.getElem?_eq_getElem (by rw [hlen]; decide)⟩
  rw [t16, o16, c16, hy16] at f16
  replace f16 : DataW.trod enc Tryz.prog W 0 (fun _ => true) true m 9 [v23] = some y16 := f16
  obtain ⟨s16, a16, -, w16⟩ := DataW.trod_string (by kernel_rfl) f16
  obtain rfl : v23 = .string s16 := (List.cons.inj a16).1
  have l16 := ba_len w16
  have q16 := dr_str (F := Fw W) s16
  subst r4
  subst r5
  subst r6
  obtain ⟨z10, rfl⟩ := r10
  obtain ⟨z12, rfl⟩ := r12
  exact ⟨⟨e0, n1, n2, n3, e4.1, e4.2, e5.1, e5.2, e6.1, e6.2, n7, n8, b9, e10, b11, e12, e13, n14, n15, s16.data.toList⟩, .agg _, ⟨z0, x0, z10, z12, z13, x13, rfl, Kv.Rs_of r0, r13⟩, ⟨⟨Kv.lns_of fun v hv => (p0 v hv).1, l0, p10.1, p12.1, fun v hv => (p13 v hv).1, l13, l16⟩, ⟨fun v hv => (p0 v hv).2, by show n1 < 2 ^ 64; omega, by show n2 < 2 ^ 64; omega, by show n3 < 2 ^ 64; omega, p4, p5, p6, ⟨lo7, by omega⟩, by show n8 < 2 ^ 64; omega, p10.2, p12.2, fun v hv => (p13 v hv).2, by show n14 < 4294967296; omega, by show n15 < 2 ^ 64; omega⟩⟩, .cons (q0) (.cons (.int ..) (.cons (.int ..) (.cons (.int ..) (DRs_app q4 (DRs_app q5 (DRs_app q6 (.cons (.int ..) (.cons (.int ..) (.cons (.bool _) (DRs_app q10 (.cons (.bool _) (DRs_app q12 (.cons (q13) (.cons (.int ..) (.cons (.int ..) (.cons (q16) .nil))))))))))))))))⟩
theorem open_Eh {base : Nat} {v : Value} {d : DataW H} {p : List MemPlace} (hval : Value.okWide Tryz.prog W .any base 33 v) (h : DataW.Trod enc Tryz.prog W 0 (fun _ => true) true 33 v d p) :
    ∃ (x : Eh) (xd : D), x.R xd ∧ (x.ln ∧ x.wf) ∧ DR (Fw W) xd v := by
  have hu : Tryz.prog.underlying 33 = some (.struct #[stF 33 0, stF 33 1, stF 33 2, stF 33 3, stF 33 4, stF 33 5, stF 33 6, stF 33 7, stF 33 8, stF 33 9, stF 33 10, stF 33 11, stF 33 12, stF 33 13, stF 33 14, stF 33 15, stF 33 16]) := by kernel_rfl
  obtain ⟨cs, rfl⟩ : ∃ cs, v = .agg cs := by
    unfold Value.okWide at hval
    rw [hu] at hval
    obtain ⟨cs, a, -⟩ := hval
    exact ⟨cs, a⟩
  obtain ⟨cs⟩ := cs
  obtain ⟨fuel, hf⟩ := h
  obtain ⟨x, xd, r, q, e⟩ := open_cEh fuel _ _ hf
  obtain ⟨a0, a1, a2, a3, a4, a5, a6, a7, a8, a9, a10, a11, a12, a13, a14, a15, a16, a17, a18, a19, a20, a21, a22, a23, a24, a25, a26, a27, rfl⟩ := Eh.R_sh r
  exact ⟨x, _, r, q, .agg e⟩
end
end Go.Proofs.YtcinfkbdmjnjlaaGreatDoor
