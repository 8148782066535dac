/- Batches, responses: written as the document tells. -/
import Derived.Test.YtcfkbpddmdfbaaaGreatDoorRV
import Derived.Test.YtcfkbpddmdfbaaaGreatDoorXM0
import Derived.Test.YtcfkbpddmdfbaaaGreatDoorBQ
import Derived.Test.YtcfkbpddmdfbaaaGreatDoorBZ
import Derived.Test.YtcfkbpddmdfbaaaGreatDoorQV
import Derived.Deep.Strs
import Derived.ChangeSlices
import Derived.ChangeArms
set_option linter.unusedSimpArgs false
set_option linter.unusedVariables false
set_option maxRecDepth 100000
namespace Go.Proofs.YtcfkbpddmdfbaaaGreatDoor
open Go Go.Abs
variable (B : Fr)
section
theorem both_ok {f g : Nat} {a : List T} {m t : Bool} {M : List UInt8}
  (h1 : k'0 (cx B) f a [] (if m then (if t then .tup [sT [], .d (Er.code 7).d] else .tup [sT M, .d .nili]) else .tup [sT [], .d (Er.code 8).d]) [])
  (h2 : k'0 (cx B) g a [] (if m then (if t then .tup [sT [], .d (.int .i64 7)] else .tup [sT M, .d (.int .i64 0)]) else .tup [sT [], .d (.int .i64 8)]) []) :
  ∃ (S : List UInt8) (E : Option Er), k'0 (cx B) f a [] (.tup [sT S, .d (eD E)]) [] ∧ k'0 (cx B) g a [] (.tup [sT S, .d (.int .i64 (codeE E))]) [] ∧ ((codeE E != 0) = false → m = true ∧ S = M) := by
 cases m with
 | false => exact ⟨[], some (.code 8), h1, h2, fun h => by simp [codeE, codeOf] at h⟩
 | true =>
  cases t with
  | false => exact ⟨M, none, h1, h2, fun _ => ⟨rfl, rfl⟩⟩
  | true => exact ⟨[], some (.code 7), h1, h2, fun h => by simp [codeE, codeOf] at h⟩
set_option maxHeartbeats 4000000 in
theorem BatchWrites_law (hB : BOk B) (x : Bt) (xa : D) (hR : x.R xa) (hp : x.ln ∧ x.wf) (r : Rp) (ra : D) (hS : r.R ra) (hq : r.ln ∧ r.wf) :
  k'0 (cx B) 3 [.d xa, .d ra] [] (.d (.bool true)) [] := by
 have hf := firstBt_calls B hB
 have hr := FewBt_calls B x _ hp.1 hR
 have c1 := fun h => Bt_Marshal_calls B x _ h hp.2 hR
 have c2 := fun h => rMarshal_calls B x _ h hp.2 hR
 have c3 := fun h => Bt_May_calls B x _ h hR
 have c4 := fun h => k'4e B x _ h hp.2 hR
 have c5 := fun h => Bt_Points_calls B x _ h hR
 have c6 := fun h => rTotal_calls B x _ h hR
 have c7 := fun h => Bt_Count_calls B x _ h hR
 have c8 := fun h => rCount_calls B x _ h hR
 have c9 := fun h m => Bt_Size_calls B x _ h hp.2 hR m
 obtain ⟨z, l, rfl, -⟩ := hR
 obtain rfl : ra = r.d := hS
 have d1 := fun h => Answer_calls B r h hq.2
 have d2 := fun h => rAnswer_calls B r h hq.2
 have d3 := fun h => k'4i B r h
 have d4 := fun h => k'3u B r h
 unfold Rp.d at d1 d2 d3 d4 ⊢
 refine l_bw Tryz.func3 0 [] ?_
 refine l_cw [] (hf) rfl rfl rfl ?_
 refine l_cw [] (hr) rfl rfl rfl ?_
 by_cases h1 : roomBt x 20000 ≥ 0
 rotate_left
 ·rw [show decide (roomBt x 20000 ≥ 0) = false from decide_eq_false h1]
  refine Y ?_
  refine k'2 [] (hf) rfl rfl rfl ?_
  exact Z
 rw [show decide (roomBt x 20000 ≥ 0) = true from decide_eq_true h1]
 refine Y ?_
 by_cases g0 : (r.p.msg.length : Int) > 9000
 ·rw [show decide ((r.p.msg.length : Int) > 9000) = true from decide_eq_true g0]
  refine Y ?_
  refine k'2 [] (hf) rfl rfl rfl ?_
  exact Z
 rw [show decide ((r.p.msg.length : Int) > 9000) = false from decide_eq_false g0]
 refine Y ?_
 by_cases g1 : (r.p.u.length : Int) > 4000
 ·rw [show decide ((r.p.u.length : Int) > 4000) = true from decide_eq_true g1]
  refine Y ?_
  refine k'2 [] (hf) rfl rfl rfl ?_
  exact Z
 rw [show decide ((r.p.u.length : Int) > 4000) = false from decide_eq_false g1]
 refine Y ?_
 by_cases g2 : (r.u.length : Int) > 4000
 ·rw [show decide ((r.u.length : Int) > 4000) = true from decide_eq_true g2]
  refine Y ?_
  refine k'2 [] (hf) rfl rfl rfl ?_
  exact Z
 rw [show decide ((r.u.length : Int) > 4000) = false from decide_eq_false g2]
 refine Y ?_
 have hrb : r.sz < big := by unfold Rp.sz Sx.sz big; omega
 have hbig := roomBt_ok x h1
 replace c1 := c1 hbig
 replace c2 := c2 hbig
 replace c3 := c3 hbig
 replace c4 := c4 hbig
 replace c5 := c5 hbig
 replace c6 := c6 hbig
 replace c7 := c7 hbig
 replace c8 := c8 hbig
 replace c9 := c9 hbig
 replace d1 := d1 hrb
 replace d2 := d2 hrb
 replace d3 := d3 hrb
 replace d4 := d4 hrb
 obtain ⟨S, E, s1, s2, s3⟩ := both_ok B (t := decide (tooB x.mar)) (by simpa only [decide_eq_true_eq] using c1) (by simpa only [decide_eq_true_eq] using c2)
 obtain ⟨U, G, u1, u2, -⟩ := both_ok B (t := decide (tooB r.mar)) (by simpa only [decide_eq_true_eq] using d1) (by simpa only [decide_eq_true_eq] using d2)
 have e1 := Code_calls B hB E
 have e2 := Code_calls B hB G
 have c10 : (codeE E != 0) = false → k'0 (cx B) 19 [.d (.agg [.sl z l, .str x.u])] [] (iT S.length) [] := fun h => by
  obtain ⟨m1, m2⟩ := s3 h
  rw [m2]; exact c9 m1
 clear c1 c2 c9 d1 d2 s3
 generalize x.may = q1 at *
 generalize r.may = q2 at *
 generalize codeE E = k1 at *
 generalize codeE G = k2 at *
 generalize eD E = v1 at *
 generalize eD G = v2 at *
 generalize x.sum Me.points = n1 at *
 generalize x.sum one1 = n2 at *
 refine l_cw [] (s1) rfl rfl rfl ?_
 refine l_cw [] (s2) rfl rfl rfl ?_
 refine l_cw [] (u1) rfl rfl rfl ?_
 refine l_cw [] (u2) rfl rfl rfl ?_
 refine xw ?_
 rw [show (S == S) = true by simp]
 refine Y ?_
 refine k'3 [] (e1) rfl rfl rfl ?_
 refine xw ?_
 rw [show (k1 != k1) = false by simp]
 refine xw ?_
 rw [show (U == U) = true by simp]
 refine xw ?_
 refine k'3 [] (e2) rfl rfl rfl ?_
 refine xw ?_
 rw [show (k2 != k2) = false by simp]
 refine xw ?_
 refine k'3 [] (c3) rfl rfl rfl ?_
 refine xw ?_
 refine k'3 [] (c4) rfl rfl rfl ?_
 refine xw ?_
 rw [show (q1 == q1) = true by simp]
 refine xw ?_
 refine k'3 [] (d3) rfl rfl rfl ?_
 refine xw ?_
 refine k'3 [] (d4) rfl rfl rfl ?_
 refine xw ?_
 rw [show (q2 == q2) = true by simp]
 refine xw ?_
 refine Y ?_
 refine k'3 [] (hf) rfl rfl rfl ?_
 refine xw ?_
 refine Y ?_
 cases hk : (k1 != 0)
 rotate_left
 ·refine xw ?_
  refine k'3 [] (c5) rfl rfl rfl ?_
  refine xw ?_
  refine k'3 [] (c6) rfl rfl rfl ?_
  refine xw ?_
  rw [show ((n1 : Int) == (n1 : Int)) = true by simp]
  refine xw ?_
  refine k'3 [] (c7) rfl rfl rfl ?_
  refine xw ?_
  refine k'3 [] (c8) rfl rfl rfl ?_
  refine xw ?_
  rw [show ((n2 : Int) == (n2 : Int)) = true by simp]
  refine xw ?_
  exact Z
 replace c10 := c10 hk
 refine xw ?_
 refine k'3 [] (c10) rfl rfl rfl ?_
 refine xw ?_
 rw [show ((S.length : Int) == (S.length : Int)) = true by simp]
 refine xw ?_
 refine k'3 [] (c5) rfl rfl rfl ?_
 refine xw ?_
 refine k'3 [] (c6) rfl rfl rfl ?_
 refine xw ?_
 rw [show ((n1 : Int) == (n1 : Int)) = true by simp]
 refine xw ?_
 refine k'3 [] (c7) rfl rfl rfl ?_
 refine xw ?_
 refine k'3 [] (c8) rfl rfl rfl ?_
 refine xw ?_
 rw [show ((n2 : Int) == (n2 : Int)) = true by simp]
 refine xw ?_
 exact Z
end
section
open Go Go.Abs Go.ChangeShapes Go.WideShapes Go.RowKit
section
variable {H : Type} {enc : TypeId × Value → H} {W : World}
theorem open_cEm (fuel : Nat) : ∀ cs x, DataW.trod enc Tryz.prog W 0 (fun _ => true) true fuel 322 cs = some x → ∃ (v : Em) (xd : D), v.R xd ∧ (v.ln ∧ v.wf) ∧ DRs (Fw W) xd.cells cs := by
 intro cs x h
 have hu : Tryz.prog.underlying 322 = some (.struct #[stF 322 0, stF 322 1, stF 322 2, stF 322 3, stF 322 4, stF 322 5, stF 322 6]) := by kernel_rfl
 obtain ⟨ys, m, rfl, -, hl, hlen, hf⟩ := DataW.trod_struct hu h
 rw [show Tryz.prog.cellsOf 322 = 7 by kernel_rfl] at hl
 obtain ⟨v0, v1, v2, v3, v4, v5, v6, rfl⟩ : ∃ v0 v1 v2 v3 v4 v5 v6, cs = [v0, v1, v2, v3, v4, v5, v6] := by
  match cs, hl with
  | [v0, v1, v2, v3, v4, v5, v6], _ => exact ⟨_, _, _, _, _, _, _, rfl⟩
 obtain ⟨y0, f0⟩ := fld hlen hf 0 rfl (X := 55) (off := 0) (c := 1) (by kernel_rfl)
 obtain ⟨k0, z0, e0, x0, a0, r0, p0, l0, q0⟩ := k'd (by kernel_rfl) (show Tryz.prog.cellsOf 250 = 11 by kernel_rfl) (by omega) f0 (fun n _ => (open_vk n).2)
 obtain rfl : v0 = k0 := (List.cons.inj a0).1
 obtain ⟨n1, a1, hi1⟩ := k'1w hlen hf 1 rfl (X := 73) (off := 1) (c := 1) (by kernel_rfl) (by kernel_rfl)
 obtain rfl : v1 = .int .u64 n1 := (List.cons.inj a1).1
 obtain ⟨n2, a2, lo2, hi2⟩ := fld_i64 hlen hf 2 rfl (X := 3) (off := 2) (c := 1) (by kernel_rfl) (by kernel_rfl)
 obtain rfl : v2 = .int .i64 n2 := (List.cons.inj a2).1
 obtain ⟨n3, a3, hi3⟩ := k'1w hlen hf 3 rfl (X := 73) (off := 3) (c := 1) (by kernel_rfl) (by kernel_rfl)
 obtain rfl : v3 = .int .u64 n3 := (List.cons.inj a3).1
 obtain ⟨s4, a4, l4⟩ := k'11 hlen hf 4 rfl (X := 9) (off := 4) (c := 1) (by kernel_rfl) (by kernel_rfl)
 obtain rfl : v4 = .string s4 := (List.cons.inj a4).1
 obtain ⟨s5, a5, l5⟩ := k'11 hlen hf 5 rfl (X := 9) (off := 5) (c := 1) (by kernel_rfl) (by kernel_rfl)
 obtain rfl : v5 = .string s5 := (List.cons.inj a5).1
 obtain ⟨s6, a6, l6⟩ := k'11 hlen hf 6 rfl (X := 9) (off := 6) (c := 1) (by kernel_rfl) (by kernel_rfl)
 obtain rfl : v6 = .string s6 := (List.cons.inj a6).1
 exact ⟨⟨e0, n1, n2, n3, s4.data.toList, s5.data.toList, s6.data.toList⟩, .agg _, ⟨z0, x0, rfl, Kv.Rs_of r0⟩, ⟨⟨Kv.lns_of fun v hv => (p0 v hv).1, l0, l4, l5, l6⟩, ⟨fun v hv => (p0 v hv).2, by show n1 < 2 ^ 64; omega, by show n3 < 2 ^ 64; omega⟩⟩, .cons (q0) (.cons (.int ..) (.cons (.int ..) (.cons (.int ..) (.cons (k'20 _) (.cons (k'20 _) (.cons (k'20 _) .nil))))))⟩
end
end
section
open Go Go.Abs Go.ChangeShapes Go.WideShapes Go.RowKit
section
variable {H : Type} {enc : TypeId × Value → H} {W : World}
theorem open_cNb (fuel : Nat) : ∀ cs x, DataW.trod enc Tryz.prog W 0 (fun _ => true) true fuel 182 cs = some x → ∃ (v : Nb) (xd : D), v.R xd ∧ (v.ln ∧ v.wf) ∧ DRs (Fw W) xd.cells cs := by
 intro cs x h
 have hu : Tryz.prog.underlying 182 = some (.struct #[stF 182 0, stF 182 1, stF 182 2, stF 182 3, stF 182 4, stF 182 5, stF 182 6, stF 182 7]) := by kernel_rfl
 obtain ⟨ys, m, rfl, -, hl, hlen, hf⟩ := DataW.trod_struct hu h
 rw [show Tryz.prog.cellsOf 182 = 8 by kernel_rfl] at hl
 obtain ⟨v0, v1, v2, v3, v4, v5, v6, v7, rfl⟩ : ∃ v0 v1 v2 v3 v4 v5 v6 v7, cs = [v0, v1, v2, v3, v4, v5, v6, v7] := by
  match cs, hl with
  | [v0, v1, v2, v3, v4, v5, v6, v7], _ => exact ⟨_, _, _, _, _, _, _, _, rfl⟩
 obtain ⟨y0, f0⟩ := fld hlen hf 0 rfl (X := 55) (off := 0) (c := 1) (by kernel_rfl)
 obtain ⟨k0, z0, e0, x0, a0, r0, p0, l0, q0⟩ := k'd (by kernel_rfl) (show Tryz.prog.cellsOf 250 = 11 by kernel_rfl) (by omega) f0 (fun n _ => (open_vk n).2)
 obtain rfl : v0 = k0 := (List.cons.inj a0).1
 obtain ⟨n1, a1, hi1⟩ := k'1w hlen hf 1 rfl (X := 73) (off := 1) (c := 1) (by kernel_rfl) (by kernel_rfl)
 obtain rfl : v1 = .int .u64 n1 := (List.cons.inj a1).1
 obtain ⟨n2, a2, hi2⟩ := k'1w hlen hf 2 rfl (X := 73) (off := 2) (c := 1) (by kernel_rfl) (by kernel_rfl)
 obtain rfl : v2 = .int .u64 n2 := (List.cons.inj a2).1
 obtain ⟨n3, a3, lo3, hi3⟩ := fld_i64 hlen hf 3 rfl (X := 3) (off := 3) (c := 1) (by kernel_rfl) (by kernel_rfl)
 obtain rfl : v3 = .int .i64 n3 := (List.cons.inj a3).1
 obtain ⟨n4, a4, hi4⟩ := k'1w hlen hf 4 rfl (X := 73) (off := 4) (c := 1) (by kernel_rfl) (by kernel_rfl)
 obtain rfl : v4 = .int .u64 n4 := (List.cons.inj a4).1
 obtain ⟨y5, f5⟩ := fld hlen hf 5 rfl (X := 180) (off := 5) (c := 1) (by kernel_rfl)
 obtain ⟨k5, z5, e5, x5, a5, r5, p5, l5, q5⟩ := k'd (by kernel_rfl) (show Tryz.prog.cellsOf 322 = 7 by kernel_rfl) (by omega) f5 (fun n _ => open_cEm n)
 obtain rfl : v5 = k5 := (List.cons.inj a5).1
 obtain ⟨n6, a6, hi6⟩ := fld_u32 hlen hf 6 rfl (X := 56) (off := 6) (c := 1) (by kernel_rfl) (by kernel_rfl)
 obtain rfl : v6 = .int .u32 n6 := (List.cons.inj a6).1
 obtain ⟨s7, a7, l7⟩ := k'11 hlen hf 7 rfl (X := 9) (off := 7) (c := 1) (by kernel_rfl) (by kernel_rfl)
 obtain rfl : v7 = .string s7 := (List.cons.inj a7).1
 exact ⟨⟨e0, n1, n2, n3, n4, e5, n6, s7.data.toList⟩, .agg _, ⟨z0, x0, z5, x5, rfl, Kv.Rs_of r0, r5⟩, ⟨⟨Kv.lns_of fun v hv => (p0 v hv).1, l0, fun v hv => (p5 v hv).1, l5, l7⟩, ⟨fun v hv => (p0 v hv).2, by show n1 < 2 ^ 64; omega, by show n2 < 2 ^ 64; omega, by show n4 < 2 ^ 64; omega, fun v hv => (p5 v hv).2, by show n6 < 4294967296; omega⟩⟩, .cons (q0) (.cons (.int ..) (.cons (.int ..) (.cons (.int ..) (.cons (.int ..) (.cons (q5) (.cons (.int ..) (.cons (k'20 _) .nil)))))))⟩
end
end
section
open Go Go.Abs Go.ChangeShapes Go.WideShapes Go.RowKit
section
variable {H : Type} {enc : TypeId × Value → H} {W : World}
theorem open_cHi (fuel : Nat) : ∀ cs x, DataW.trod enc Tryz.prog W 0 (fun _ => true) true fuel 188 cs = some x → ∃ (v : Hi) (xd : D), v.R xd ∧ (v.ln ∧ v.wf) ∧ DRs (Fw W) xd.cells cs := by
 intro cs x h
 have hu : Tryz.prog.underlying 188 = some (.struct #[stF 188 0, stF 188 1, stF 188 2, stF 188 3, stF 188 4, stF 188 5, stF 188 6, stF 188 7, stF 188 8, stF 188 9, stF 188 10, stF 188 11]) := by kernel_rfl
 obtain ⟨ys, m, rfl, -, hl, hlen, hf⟩ := DataW.trod_struct hu h
 rw [show Tryz.prog.cellsOf 188 = 15 by kernel_rfl] at hl
 obtain ⟨v0, v1, v2, v3, v4, v5, v6, v7, v8, v9, v10, v11, v12, v13, v14, rfl⟩ : ∃ v0 v1 v2 v3 v4 v5 v6 v7 v8 v9 v10 v11 v12 v13 v14, cs = [v0, v1, v2, v3, v4, v5, v6, v7, v8, v9, v10, v11, v12, v13, v14] := by
  match cs, hl with
  | [v0, v1, v2, v3, v4, v5, v6, v7, v8, v9, v10, v11, v12, v13, v14], _ => exact ⟨_, _, _, _, _, _, _, _, _, _, _, _, _, _, _, rfl⟩
 obtain ⟨y0, f0⟩ := fld hlen hf 0 rfl (X := 55) (off := 0) (c := 1) (by kernel_rfl)
 obtain ⟨k0, z0, e0, x0, a0, r0, p0, l0, q0⟩ := k'd (by kernel_rfl) (show Tryz.prog.cellsOf 250 = 11 by kernel_rfl) (by omega) f0 (fun n _ => (open_vk n).2)
 obtain rfl : v0 = k0 := (List.cons.inj a0).1
 obtain ⟨n1, a1, hi1⟩ := k'1w hlen hf 1 rfl (X := 73) (off := 1) (c := 1) (by kernel_rfl) (by kernel_rfl)
 obtain rfl : v1 = .int .u64 n1 := (List.cons.inj a1).1
 obtain ⟨n2, a2, hi2⟩ := k'1w hlen hf 2 rfl (X := 73) (off := 2) (c := 1) (by kernel_rfl) (by kernel_rfl)
 obtain rfl : v2 = .int .u64 n2 := (List.cons.inj a2).1
 obtain ⟨n3, a3, hi3⟩ := k'1w hlen hf 3 rfl (X := 73) (off := 3) (c := 1) (by kernel_rfl) (by kernel_rfl)
 obtain rfl : v3 = .int .u64 n3 := (List.cons.inj a3).1
 obtain ⟨y4, f4⟩ := fld hlen hf 4 rfl (X := 185) (off := 4) (c := 2) (by kernel_rfl)
 replace f4 : DataW.trod enc Tryz.prog W 0 (fun _ => true) true m 185 [v4, v5] = some y4 := f4
 obtain ⟨e4, x4, r4, p4, q4⟩ := open_opt f4
 obtain ⟨y5, f5⟩ := fld hlen hf 5 rfl (X := 185) (off := 6) (c := 2) (by kernel_rfl)
 replace f5 : DataW.trod enc Tryz.prog W 0 (fun _ => true) true m 185 [v6, v7] = some y5 := f5
 obtain ⟨e5, x5, r5, p5, q5⟩ := open_opt f5
 obtain ⟨y6, f6⟩ := fld hlen hf 6 rfl (X := 185) (off := 8) (c := 2) (by kernel_rfl)
 replace f6 : DataW.trod enc Tryz.prog W 0 (fun _ => true) true m 185 [v8, v9] = some y6 := f6
 obtain ⟨e6, x6, r6, p6, q6⟩ := open_opt f6
 obtain ⟨y7, f7⟩ := fld hlen hf 7 rfl (X := 186) (off := 10) (c := 1) (by kernel_rfl)
 obtain ⟨k7, z7, e7, x7, a7, r7, p7, l7, q7⟩ := k'd (by kernel_rfl) (show Tryz.prog.cellsOf 73 = 1 by kernel_rfl) (by omega) f7 (fun n _ => open_u64 n)
 obtain rfl : v10 = k7 := (List.cons.inj a7).1
 obtain ⟨y8, f8⟩ := fld hlen hf 8 rfl (X := 186) (off := 11) (c := 1) (by kernel_rfl)
 obtain ⟨k8, z8, e8, x8, a8, r8, p8, l8, q8⟩ := k'd (by kernel_rfl) (show Tryz.prog.cellsOf 73 = 1 by kernel_rfl) (by omega) f8 (fun n _ => open_u64 n)
 obtain rfl : v11 = k8 := (List.cons.inj a8).1
 obtain ⟨y9, f9⟩ := fld hlen hf 9 rfl (X := 180) (off := 12) (c := 1) (by kernel_rfl)
 obtain ⟨k9, z9, e9, x9, a9, r9, p9, l9, q9⟩ := k'd (by kernel_rfl) (show Tryz.prog.cellsOf 322 = 7 by kernel_rfl) (by omega) f9 (fun n _ => open_cEm n)
 obtain rfl : v12 = k9 := (List.cons.inj a9).1
 obtain ⟨n10, a10, hi10⟩ := fld_u32 hlen hf 10 rfl (X := 56) (off := 13) (c := 1) (by kernel_rfl) (by kernel_rfl)
 obtain rfl : v13 = .int .u32 n10 := (List.cons.inj a10).1
 obtain ⟨s11, a11, l11⟩ := k'11 hlen hf 11 rfl (X := 9) (off := 14) (c := 1) (by kernel_rfl) (by kernel_rfl)
 obtain rfl : v14 = .string s11 := (List.cons.inj a11).1
 subst r4
 subst r5
 subst r6
 obtain rfl := u_of r7
 obtain rfl := u_of r8
 exact ⟨⟨e0, n1, n2, n3, e4.1, e4.2, e5.1, e5.2, e6.1, e6.2, e7, e8, e9, n10, s11.data.toList⟩, .agg _, ⟨z0, x0, z7, z8, z9, x9, rfl, Kv.Rs_of r0, r9⟩, ⟨⟨Kv.lns_of fun v hv => (p0 v hv).1, l0, l7, l8, fun v hv => (p9 v hv).1, l9, l11⟩, ⟨fun v hv => (p0 v hv).2, by show n1 < 2 ^ 64; omega, by show n2 < 2 ^ 64; omega, by show n3 < 2 ^ 64; omega, p4, p5, p6, p7, p8, fun v hv => (p9 v hv).2, by show n10 < 4294967296; omega⟩⟩, .cons (q0) (.cons (.int ..) (.cons (.int ..) (.cons (.int ..) (k'3j q4 (k'3j q5 (k'3j q6 (.cons (q7) (.cons (q8) (.cons (q9) (.cons (.int ..) (.cons (k'20 _) .nil)))))))))))⟩
end
end
section
open Go Go.Abs Go.ChangeShapes Go.WideShapes Go.RowKit
section
variable {H : Type} {enc : TypeId × Value → H} {W : World}
theorem open_cEh (fuel : Nat) : ∀ cs x, DataW.trod enc Tryz.prog W 0 (fun _ => true) true fuel 193 cs = some x → ∃ (v : Eh) (xd : D), v.R xd ∧ (v.ln ∧ v.wf) ∧ DRs (Fw W) xd.cells cs := by
 intro cs x h
 have hu : Tryz.prog.underlying 193 = some (.struct #[stF 193 0, stF 193 1, stF 193 2, stF 193 3, stF 193 4, stF 193 5, stF 193 6, stF 193 7, stF 193 8, stF 193 9, stF 193 10, stF 193 11, stF 193 12, stF 193 13, stF 193 14, stF 193 15, stF 193 16]) := by kernel_rfl
 obtain ⟨ys, m, rfl, -, hl, hlen, hf⟩ := DataW.trod_struct hu h
 rw [show Tryz.prog.cellsOf 193 = 24 by kernel_rfl] at hl
 obtain ⟨v0, v1, v2, v3, v4, v5, v6, v7, v8, v9, v10, v11, v12, v13, v14, v15, v16, v17, v18, v19, v20, v21, v22, v23, rfl⟩ : ∃ v0 v1 v2 v3 v4 v5 v6 v7 v8 v9 v10 v11 v12 v13 v14 v15 v16 v17 v18 v19 v20 v21 v22 v23, cs = [v0, v1, v2, v3, v4, v5, v6, v7, v8, v9, v10, v11, v12, v13, v14, v15, v16, v17, v18, v19, v20, v21, v22, v23] := by
  match cs, hl with
  | [v0, v1, v2, v3, v4, v5, v6, v7, v8, v9, v10, v11, v12, v13, v14, v15, v16, v17, v18, v19, v20, v21, v22, v23], _ => exact ⟨_, _, _, _, _, _, _, _, _, _, _, _, _, _, _, _, _, _, _, _, _, _, _, _, rfl⟩
 obtain ⟨y0, f0⟩ := fld hlen hf 0 rfl (X := 55) (off := 0) (c := 1) (by kernel_rfl)
 obtain ⟨k0, z0, e0, x0, a0, r0, p0, l0, q0⟩ := k'd (by kernel_rfl) (show Tryz.prog.cellsOf 250 = 11 by kernel_rfl) (by omega) f0 (fun n _ => (open_vk n).2)
 obtain rfl : v0 = k0 := (List.cons.inj a0).1
 obtain ⟨n1, a1, hi1⟩ := k'1w hlen hf 1 rfl (X := 73) (off := 1) (c := 1) (by kernel_rfl) (by kernel_rfl)
 obtain rfl : v1 = .int .u64 n1 := (List.cons.inj a1).1
 obtain ⟨n2, a2, hi2⟩ := k'1w hlen hf 2 rfl (X := 73) (off := 2) (c := 1) (by kernel_rfl) (by kernel_rfl)
 obtain rfl : v2 = .int .u64 n2 := (List.cons.inj a2).1
 obtain ⟨n3, a3, hi3⟩ := k'1w hlen hf 3 rfl (X := 73) (off := 3) (c := 1) (by kernel_rfl) (by kernel_rfl)
 obtain rfl : v3 = .int .u64 n3 := (List.cons.inj a3).1
 obtain ⟨y4, f4⟩ := fld hlen hf 4 rfl (X := 185) (off := 4) (c := 2) (by kernel_rfl)
 replace f4 : DataW.trod enc Tryz.prog W 0 (fun _ => true) true m 185 [v4, v5] = some y4 := f4
 obtain ⟨e4, x4, r4, p4, q4⟩ := open_opt f4
 obtain ⟨y5, f5⟩ := fld hlen hf 5 rfl (X := 185) (off := 6) (c := 2) (by kernel_rfl)
 replace f5 : DataW.trod enc Tryz.prog W 0 (fun _ => true) true m 185 [v6, v7] = some y5 := f5
 obtain ⟨e5, x5, r5, p5, q5⟩ := open_opt f5
 obtain ⟨y6, f6⟩ := fld hlen hf 6 rfl (X := 185) (off := 8) (c := 2) (by kernel_rfl)
 replace f6 : DataW.trod enc Tryz.prog W 0 (fun _ => true) true m 185 [v8, v9] = some y6 := f6
 obtain ⟨e6, x6, r6, p6, q6⟩ := open_opt f6
 obtain ⟨n7, a7, lo7, hi7⟩ := fld_i32 hlen hf 7 rfl (X := 21) (off := 10) (c := 1) (by kernel_rfl) (by kernel_rfl)
 obtain rfl : v10 = .int .i32 n7 := (List.cons.inj a7).1
 obtain ⟨n8, a8, hi8⟩ := k'1w hlen hf 8 rfl (X := 73) (off := 11) (c := 1) (by kernel_rfl) (by kernel_rfl)
 obtain rfl : v11 = .int .u64 n8 := (List.cons.inj a8).1
 obtain ⟨b9, a9⟩ := k'3b hlen hf 9 rfl (X := 4) (off := 12) (c := 1) (by kernel_rfl) (by kernel_rfl)
 obtain rfl : v12 = .bool b9 := (List.cons.inj a9).1
 obtain ⟨y10, f10⟩ := fld hlen hf 10 rfl (X := 191) (off := 13) (c := 3) (by kernel_rfl)
 replace f10 : DataW.trod enc Tryz.prog W 0 (fun _ => true) true m 191 [v13, v14, v15] = some y10 := f10
 obtain ⟨e10, x10, r10, p10, q10⟩ := open_bk f10
 obtain ⟨b11, a11⟩ := k'3b hlen hf 11 rfl (X := 4) (off := 16) (c := 1) (by kernel_rfl) (by kernel_rfl)
 obtain rfl : v16 = .bool b11 := (List.cons.inj a11).1
 obtain ⟨y12, f12⟩ := fld hlen hf 12 rfl (X := 191) (off := 17) (c := 3) (by kernel_rfl)
 replace f12 : DataW.trod enc Tryz.prog W 0 (fun _ => true) true m 191 [v17, v18, v19] = some y12 := f12
 obtain ⟨e12, x12, r12, p12, q12⟩ := open_bk f12
 obtain ⟨y13, f13⟩ := fld hlen hf 13 rfl (X := 180) (off := 20) (c := 1) (by kernel_rfl)
 obtain ⟨k13, z13, e13, x13, a13, r13, p13, l13, q13⟩ := k'd (by kernel_rfl) (show Tryz.prog.cellsOf 322 = 7 by kernel_rfl) (by omega) f13 (fun n _ => open_cEm n)
 obtain rfl : v20 = k13 := (List.cons.inj a13).1
 obtain ⟨n14, a14, hi14⟩ := fld_u32 hlen hf 14 rfl (X := 56) (off := 21) (c := 1) (by kernel_rfl) (by kernel_rfl)
 obtain rfl : v21 = .int .u32 n14 := (List.cons.inj a14).1
 obtain ⟨n15, a15, hi15⟩ := k'1w hlen hf 15 rfl (X := 73) (off := 22) (c := 1) (by kernel_rfl) (by kernel_rfl)
 obtain rfl : v22 = .int .u64 n15 := (List.cons.inj a15).1
 obtain ⟨s16, a16, l16⟩ := k'11 hlen hf 16 rfl (X := 9) (off := 23) (c := 1) (by kernel_rfl) (by kernel_rfl)
 obtain rfl : v23 = .string s16 := (List.cons.inj a16).1
 subst r4
 subst r5
 subst r6
 obtain ⟨z10, rfl⟩ := r10
 obtain ⟨z12, rfl⟩ := r12
 exact ⟨⟨e0, n1, n2, n3, e4.1, e4.2, e5.1, e5.2, e6.1, e6.2, n7, n8, b9, e10, b11, e12, e13, n14, n15, s16.data.toList⟩, .agg _, ⟨z0, x0, z10, z12, z13, x13, rfl, Kv.Rs_of r0, r13⟩, ⟨⟨Kv.lns_of fun v hv => (p0 v hv).1, l0, p10.1, p12.1, fun v hv => (p13 v hv).1, l13, l16⟩, ⟨fun v hv => (p0 v hv).2, by show n1 < 2 ^ 64; omega, by show n2 < 2 ^ 64; omega, by show n3 < 2 ^ 64; omega, p4, p5, p6, ⟨lo7, by omega⟩, by show n8 < 2 ^ 64; omega, p10.2, p12.2, fun v hv => (p13 v hv).2, by show n14 < 4294967296; omega, by show n15 < 2 ^ 64; omega⟩⟩, .cons (q0) (.cons (.int ..) (.cons (.int ..) (.cons (.int ..) (k'3j q4 (k'3j q5 (k'3j q6 (.cons (.int ..) (.cons (.int ..) (.cons (.bool _) (k'3j q10 (.cons (.bool _) (k'3j q12 (.cons (q13) (.cons (.int ..) (.cons (.int ..) (.cons (k'20 _) .nil))))))))))))))))⟩
end
end
