/- Exp: alike, may they be, written, read. -/
import Derived.Test.YtidcjbkenpgnoaaGreatDoorQP
set_option linter.unusedSimpArgs false
set_option linter.unusedVariables false
set_option maxRecDepth 100000
namespace Go.Proofs.YtidcjbkenpgnoaaGreatDoor
open Go Go.Abs
variable (B : Fr)
def Eh.d (x : Eh) : D := .agg [slD (Kv.ds x.attrs), .int .u64 x.start, .int .u64 x.time, .int .u64 x.count, .bool x.sumH, .int .u64 x.sum, .bool x.minH, .int .u64 x.min, .bool x.maxH, .int .u64 x.max, .int .i32 x.scale, .int .u64 x.zero, .bool x.posH, .int .i32 x.pos.off, slD (x.pos.cs.map uD), .str x.pos.u, .bool x.negH, .int .i32 x.neg.off, slD (x.neg.cs.map uD), .str x.neg.u, slD (x.exs.map Em.d), .int .u32 x.flags, .int .u64 x.thr, .str x.u]
def Eh.R (x : Eh) (a : D) : Prop := ∃ (z_attrs : Bool) (l_attrs : List D) (z_pos : Bool) (z_neg : Bool) (z_exs : Bool) (l_exs : List D), a = .agg [.sl z_attrs l_attrs, .int .u64 x.start, .int .u64 x.time, .int .u64 x.count, .bool x.sumH, .int .u64 x.sum, .bool x.minH, .int .u64 x.min, .bool x.maxH, .int .u64 x.max, .int .i32 x.scale, .int .u64 x.zero, .bool x.posH, .int .i32 x.pos.off, .sl z_pos (x.pos.cs.map uD), .str x.pos.u, .bool x.negH, .int .i32 x.neg.off, .sl z_neg (x.neg.cs.map uD), .str x.neg.u, .sl z_exs l_exs, .int .u32 x.flags, .int .u64 x.thr, .str x.u] ∧ Kv.Rs x.attrs l_attrs ∧ RsOf Em.R x.exs l_exs
def EhSh (x : D) : Prop := ∃ (a0 : Bool) (a1 : List D) (a2 : Nat) (a3 : Nat) (a4 : Nat) (a5 : Bool) (a6 : Nat) (a7 : Bool) (a8 : Nat) (a9 : Bool) (a10 : Nat) (a11 : Int) (a12 : Nat) (a13 : Bool) (a14 : Int) (a15 : Bool) (a16 : List D) (a17 : List UInt8) (a18 : Bool) (a19 : Int) (a20 : Bool) (a21 : List D) (a22 : List UInt8) (a23 : Bool) (a24 : List D) (a25 : Nat) (a26 : Nat) (a27 : List UInt8), x = .agg [.sl a0 a1, .int .u64 a2, .int .u64 a3, .int .u64 a4, .bool a5, .int .u64 a6, .bool a7, .int .u64 a8, .bool a9, .int .u64 a10, .int .i32 a11, .int .u64 a12, .bool a13, .int .i32 a14, .sl a15 a16, .str a17, .bool a18, .int .i32 a19, .sl a20 a21, .str a22, .sl a23 a24, .int .u32 a25, .int .u64 a26, .str a27]
theorem Eh.R_sh {x : Eh} {a : D} (h : x.R a) : EhSh a := by
 obtain ⟨z_attrs, l_attrs, z_pos, z_neg, z_exs, l_exs, h, -⟩ := h
 exact ⟨_, _, _, _, _, _, _, _, _, _, _, _, _, _, _, _, _, _, _, _, _, _, _, _, _, _, _, _, h⟩
theorem Eh.d_R (x : Eh) : x.R x.d := ⟨_, _, _, _, _, _, rfl, Kv.ds_R _, RsOf.map Em.d_R _⟩
theorem Eh.Rs_sh {l : List Eh} {xs : List D} (h : RsOf Eh.R l xs) : ∀ x ∈ xs, EhSh x := fun x hx => by
 obtain ⟨v, -, r⟩ := h.mem hx
 exact Eh.R_sh r
theorem Eh_sides_calls (x y : Eh) (xa ya : D) (hbig : x.sz < big) (hx : x.R xa) (hy : y.R ya) : k'0 (cx B) 312 [.d xa, .d ya] [] (.d (.bool (x.posH == y.posH && x.negH == y.negH && x.pos.eq y.pos && x.neg.eq y.neg))) [] := by
 obtain ⟨z_attrs, l_attrs, z_pos, z_neg, z_exs, l_exs, rfl, r_attrs, r_exs⟩ := hx
 obtain ⟨y_attrs, m_attrs, y_pos, y_neg, y_exs, m_exs, rfl, s_attrs, s_exs⟩ := hy
 unfold Eh.sz at hbig
 have c_pos := SameZ B z_pos y_pos x.pos.off x.pos.cs x.pos.u y.pos.off y.pos.cs y.pos.u (by unfold Bk.sz big at hbig; omega)
 rw [show (x.pos.off == y.pos.off && x.pos.u == y.pos.u && x.pos.cs == y.pos.cs) = x.pos.eq y.pos from rfl] at c_pos
 have c_neg := SameZ B z_neg y_neg x.neg.off x.neg.cs x.neg.u y.neg.off y.neg.cs y.neg.u (by unfold Bk.sz big at hbig; omega)
 rw [show (x.neg.off == y.neg.off && x.neg.u == y.neg.u && x.neg.cs == y.neg.cs) = x.neg.eq y.neg from rfl] at c_neg
 refine l_bw Tryz.func312 0 [] ?_
 cases e0 : (x.posH == y.posH)
 ·exact Z
 refine Y ?_
 cases e1 : (x.negH == y.negH)
 ·exact Z
 refine Y ?_
 refine k'1w [] (c_pos) rfl rfl rfl rfl rfl ?_
 cases e2 : (x.pos.eq y.pos)
 ·exact Z
 refine Y ?_
 refine k'8 [] (c_neg) rfl rfl rfl rfl rfl ?_
 exact Z
theorem Eh_Same_calls (x y : Eh) (xa ya : D) (hbig : x.sz < big) (hx : x.R xa) (hy : y.R ya) : k'0 (cx B) 241 [.d xa, .d ya] [] (.d (.bool (x.eq y))) [] := by
 have c_sides := Eh_sides_calls B x y xa ya hbig hx hy
 obtain ⟨z_attrs, l_attrs, z_pos, z_neg, z_exs, l_exs, rfl, r_attrs, r_exs⟩ := hx
 obtain ⟨y_attrs, m_attrs, y_pos, y_neg, y_exs, m_exs, rfl, s_attrs, s_exs⟩ := hy
 unfold Eh.sz at hbig
 have c_attrs := k'1a B (a := x.attrs) (b := y.attrs) z_attrs y_attrs (by omega) r_attrs s_attrs
 have c_exs := EqF_Em_R B z_exs y_exs (by omega) r_exs s_exs
 rw [show x.eq y = ((x.start == y.start) && (x.time == y.time) && (x.count == y.count) && (x.sumH == y.sumH && x.sum == y.sum) && (x.minH == y.minH && x.min == y.min) && (x.maxH == y.maxH && x.max == y.max) && (x.scale == y.scale) && (x.zero == y.zero) && (x.flags == y.flags) && (x.thr == y.thr) && (x.u == y.u) && (x.posH == y.posH && x.negH == y.negH && x.pos.eq y.pos && x.neg.eq y.neg) && (Em.eqs x.exs y.exs) && (Kv.eqs x.attrs y.attrs)) by unfold Eh.eq; ac_rfl]
 refine l_bw Tryz.func241 0 [] ?_
 rw [ibeq x.start y.start]
 cases e0 : (x.start == y.start)
 ·exact Z
 refine Y ?_
 rw [ibeq x.time y.time]
 cases e1 : (x.time == y.time)
 ·exact Z
 refine Y ?_
 rw [ibeq x.count y.count]
 cases e2 : (x.count == y.count)
 ·exact Z
 refine Y ?_
 (first | refine k'3d (StepE.eqOpt rfl rfl rfl (opt_ok B)) rfl rfl rfl rfl ?_ | refine k'4 (StepE.eqOpt rfl rfl rfl (opt_ok B)) rfl rfl ?_)
 refine Y ?_
 cases e3 : (x.sumH == y.sumH && x.sum == y.sum)
 ·exact Z
 refine Y ?_
 (first | refine k'3d (StepE.eqOpt rfl rfl rfl (opt_ok B)) rfl rfl rfl rfl ?_ | refine k'4 (StepE.eqOpt rfl rfl rfl (opt_ok B)) rfl rfl ?_)
 refine Y ?_
 cases e4 : (x.minH == y.minH && x.min == y.min)
 ·exact Z
 refine Y ?_
 (first | refine k'3d (StepE.eqOpt rfl rfl rfl (opt_ok B)) rfl rfl rfl rfl ?_ | refine k'4 (StepE.eqOpt rfl rfl rfl (opt_ok B)) rfl rfl ?_)
 refine Y ?_
 cases e5 : (x.maxH == y.maxH && x.max == y.max)
 ·exact Z
 refine Y ?_
 cases e6 : (x.scale == y.scale)
 ·exact Z
 refine Y ?_
 rw [ibeq x.zero y.zero]
 cases e7 : (x.zero == y.zero)
 ·exact Z
 refine Y ?_
 rw [ibeq x.flags y.flags]
 cases e8 : (x.flags == y.flags)
 ·exact Z
 refine Y ?_
 rw [ibeq x.thr y.thr]
 cases e9 : (x.thr == y.thr)
 ·exact Z
 refine Y ?_
 cases e10 : (x.u == y.u)
 ·exact Z
 refine Y ?_
 refine k'1w [] (c_sides) rfl rfl rfl rfl rfl ?_
 cases e11 : (x.posH == y.posH && x.negH == y.negH && x.pos.eq y.pos && x.neg.eq y.neg)
 ·exact Z
 refine Y ?_
 refine k'1w [] (c_exs) rfl rfl rfl rfl rfl ?_
 cases e12 : (Em.eqs x.exs y.exs)
 ·exact Z
 refine Y ?_
 refine k'8 [] (c_attrs) rfl rfl rfl rfl rfl ?_
 exact Z
theorem EqF_Eh_calls : EqFP B 240 EhSh := EqF_mk B Tryz.func240
theorem EqF_Eh_R : EqRP B 240 241 Eh.R Eh.sz Eh.eqs := EqF_R B (EqF_Eh_calls B) Eh.Rs_sh (fun x => by unfold Eh.sz; omega) Eh.eqs_by (Eh_Same_calls B)
theorem Eh_May_calls (x : Eh) (xa : D) (d : Int) (hbig : x.sz < big) (hx : x.R xa) (hd1 : -9223372036854775808 ≤ d) (hd2 : d < 9223372036854775808) : k'0 (cx B) 257 [.d xa, .d (.int .i64 d)] [] (.d (.bool (x.may d))) [] := by
 obtain ⟨z_attrs, l_attrs, z_pos, z_neg, z_exs, l_exs, rfl, r_attrs, r_exs⟩ := hx
 unfold Eh.sz at hbig
 unfold Eh.may
 by_cases hd0 : 0 ≤ d
 rotate_left
 ·rw [show decide (0 ≤ d) = false from decide_eq_false hd0]
  refine l_bw Tryz.func257 0 [] ?_
  rw [show decide (d ≥ 0) = false from decide_eq_false hd0]
  exact Z
 have c_u := k't B 346 tbQ (tbQ_calls B) x.u d (by omega) (by omega) hd2
 have c_opts := MayOpt3_calls B x.sumH x.sum x.minH x.min x.maxH x.max
 have c_pos := maySide_calls B z_pos x.posH x.pos (d - 1) (by omega) (by omega) (by omega)
 have c_neg := maySide_calls B z_neg x.negH x.neg (d - 1) (by omega) (by omega) (by omega)
 have c_exs := All_Em_R B z_exs d (by omega) hd0 hd2 r_exs
 have c_attrs := k'1f B (a := x.attrs) z_attrs (d - 1) (by omega) (by omega) (by omega) r_attrs
 refine l_bw Tryz.func257 0 [] ?_
 rw [show decide (d ≥ 0) = decide (0 ≤ d) from rfl]
 cases e0 : (decide (0 ≤ d))
 ·exact Z
 refine Y ?_
 (first | refine k'3d (.buildSlice (es := [.agg [.bool x.sumH, .int .u64 x.sum], .agg [.bool x.minH, .int .u64 x.min], .agg [.bool x.maxH, .int .u64 x.max]]) rfl rfl rfl rfl rfl rfl (by intro x hx; simp at hx; rcases hx with rfl | rfl | rfl <;> rfl) (by simp) (by decide) (by decide)) rfl rfl rfl rfl ?_ | refine k'4 (.buildSlice (es := [.agg [.bool x.sumH, .int .u64 x.sum], .agg [.bool x.minH, .int .u64 x.min], .agg [.bool x.maxH, .int .u64 x.max]]) rfl rfl rfl rfl rfl rfl (by intro x hx; simp at hx; rcases hx with rfl | rfl | rfl <;> rfl) (by simp) (by decide) (by decide)) rfl rfl ?_)
 refine Y ?_
 refine k'1w [] (c_opts) rfl rfl rfl rfl rfl ?_
 cases e1 : (k'1c x.sumH x.sum && k'1c x.minH x.min && k'1c x.maxH x.max)
 ·exact Z
 refine Y ?_
 rw [k'11 1 (by omega) (by omega) (by omega) hd2]
 refine k'1w [] (c_pos) rfl rfl rfl rfl rfl ?_
 cases e2 : (maySd x.posH x.pos (d - 1))
 ·exact Z
 refine Y ?_
 rw [k'11 1 (by omega) (by omega) (by omega) hd2]
 refine k'1w [] (c_neg) rfl rfl rfl rfl rfl ?_
 cases e3 : (maySd x.negH x.neg (d - 1))
 ·exact Z
 refine Y ?_
 refine k'1w [] (c_exs) rfl rfl rfl rfl rfl ?_
 cases e4 : (x.exs.all fun k => k.may (d - 1))
 ·exact Z
 refine Y ?_
 rw [k'11 1 (by omega) (by omega) (by omega) hd2]
 refine k'1w [] (c_attrs) rfl rfl rfl rfl rfl ?_
 cases e5 : (x.attrs.all fun k => k.may (d - 1))
 ·exact Z
 refine Y ?_
 refine k'8 [] (c_u) rfl rfl rfl rfl rfl ?_
 exact Z
theorem All_Eh_calls : AllP B 256 EhSh := All_of B (All1_mk B Tryz.func344) (k'2m B Tryz.func417) (Cont_mk B Tryz.func343) (Allc_mk B Tryz.func256)
theorem All_Eh_R : AllRP B 256 257 Eh.R Eh.sz Eh.may := All_R B (All_Eh_calls B) Eh.Rs_sh (fun x => by unfold Eh.sz; omega) (Eh_May_calls B)
theorem Eh_Marshal_calls (x : Eh) (xa : D) (d : Int) (hbig : x.sz < big) (hwf : x.wf) (hx : x.R xa) (hd1 : -9223372036854775808 ≤ d) (hd2 : d < 9223372036854775808) : k'0 (cx B) 320 [.d xa, .d (.int .i64 d)] [] (if x.may d then .tup [sT x.mar, .d .nili] else .tup [sT [], .d (Er.code 8).d]) [] := by
 have hm := Eh_May_calls B x xa d hbig hx hd1 hd2
 have hlen := Eh.mar_len x
 have hlen : x.mar.length < big := by omega
 obtain ⟨z_attrs, l_attrs, z_pos, z_neg, z_exs, l_exs, rfl, r_attrs, r_exs⟩ := hx
 unfold Eh.sz at hbig
 cases hc : x.may d
 ·rw [hc] at hm
  refine l_bw Tryz.func320 0 [] ?_
  refine k'1 [] (hm) rfl rfl rfl ?_
  exact Z
 rw [hc] at hm
 have hc' := hc
 unfold Eh.may at hc'
 simp only [Bool.and_eq_true, decide_eq_true_eq] at hc'
 obtain ⟨⟨⟨⟨⟨⟨hd, ⟨⟨m_sum, m_min⟩, m_max⟩⟩, m_pos⟩, m_neg⟩, m_exs⟩, m_attrs⟩, hu⟩ := hc'
 obtain ⟨w_attrs, w_start, w_time, w_count, w_sum, w_min, w_max, w_scale, w_zero, w_pos, w_neg, w_exs, w_flags, w_thr⟩ := hwf
 unfold Eh.mar Eh.hb at hlen ⊢
 obtain ⟨a0, ha0, c0⟩ := k'34 B 1 (by omega) (by omega) z_attrs d (by omega) w_attrs m_attrs hd hd2 r_attrs (.nw 71 2) [] k'22 (by simp only [List.length_append, List.length_nil] at hlen ⊢; omega)
 rw [List.nil_append] at c0
 obtain ⟨a1, ha1, c1⟩ := k'1o B 2 x.start (by omega) (by omega) (a0) (psV 1 (Kv.mars x.attrs)) ha0 (by simp only [List.length_append, List.length_nil] at hlen ⊢; omega)
 obtain ⟨a2, ha2, c2⟩ := k'1o B 3 x.time (by omega) (by omega) (a1) (psV 1 (Kv.mars x.attrs) ++ fxV 2 x.start) ha1 (by simp only [List.length_append, List.length_nil] at hlen ⊢; omega)
 obtain ⟨a3, ha3, c3⟩ := k'1o B 4 x.count (by omega) (by omega) (a2) (psV 1 (Kv.mars x.attrs) ++ fxV 2 x.start ++ fxV 3 x.time) ha2 (by simp only [List.length_append, List.length_nil] at hlen ⊢; omega)
 obtain ⟨a4, ha4, c4⟩ := wr_opt B x.sumH 5 x.sum (by omega) (by omega) (a3) (psV 1 (Kv.mars x.attrs) ++ fxV 2 x.start ++ fxV 3 x.time ++ fxV 4 x.count) ha3 (by simp only [List.length_append, List.length_nil] at hlen ⊢; omega)
 obtain ⟨a5, ha5, c5⟩ := wr_var B 6 (k'2v x.scale) (by omega) (by omega) (zig32_lt _ w_scale.1 w_scale.2) (a4) (psV 1 (Kv.mars x.attrs) ++ fxV 2 x.start ++ fxV 3 x.time ++ fxV 4 x.count ++ opV 5 x.sumH x.sum) ha4 (by simp only [List.length_append, List.length_nil] at hlen ⊢; omega)
 obtain ⟨a6, ha6, c6⟩ := k'1o B 7 x.zero (by omega) (by omega) (a5) (psV 1 (Kv.mars x.attrs) ++ fxV 2 x.start ++ fxV 3 x.time ++ fxV 4 x.count ++ opV 5 x.sumH x.sum ++ vrV 6 (k'2v x.scale)) ha5 (by simp only [List.length_append, List.length_nil] at hlen ⊢; omega)
 obtain ⟨a7, ha7, c7⟩ := wr_side B z_pos x.posH x.pos 8 (d - 1) (by omega) (by omega) (by omega) w_pos m_pos (by omega) (by omega) (a6) (psV 1 (Kv.mars x.attrs) ++ fxV 2 x.start ++ fxV 3 x.time ++ fxV 4 x.count ++ opV 5 x.sumH x.sum ++ vrV 6 (k'2v x.scale) ++ fxV 7 x.zero) ha6 (by simp only [List.length_append, List.length_nil] at hlen ⊢; omega)
 obtain ⟨a8, ha8, c8⟩ := wr_side B z_neg x.negH x.neg 9 (d - 1) (by omega) (by omega) (by omega) w_neg m_neg (by omega) (by omega) (a7) (psV 1 (Kv.mars x.attrs) ++ fxV 2 x.start ++ fxV 3 x.time ++ fxV 4 x.count ++ opV 5 x.sumH x.sum ++ vrV 6 (k'2v x.scale) ++ fxV 7 x.zero ++ sdV 8 x.posH x.pos) ha7 (by simp only [List.length_append, List.length_nil] at hlen ⊢; omega)
 obtain ⟨a9, ha9, c9⟩ := wr_var B 10 x.flags (by omega) (by omega) (by omega) (a8) (psV 1 (Kv.mars x.attrs) ++ fxV 2 x.start ++ fxV 3 x.time ++ fxV 4 x.count ++ opV 5 x.sumH x.sum ++ vrV 6 (k'2v x.scale) ++ fxV 7 x.zero ++ sdV 8 x.posH x.pos ++ sdV 9 x.negH x.neg) ha8 (by simp only [List.length_append, List.length_nil] at hlen ⊢; omega)
 obtain ⟨a10, ha10, c10⟩ := Parts_Em_R B 11 (by omega) (by omega) z_exs d (by omega) w_exs m_exs hd hd2 r_exs (a9) (psV 1 (Kv.mars x.attrs) ++ fxV 2 x.start ++ fxV 3 x.time ++ fxV 4 x.count ++ opV 5 x.sumH x.sum ++ vrV 6 (k'2v x.scale) ++ fxV 7 x.zero ++ sdV 8 x.posH x.pos ++ sdV 9 x.negH x.neg ++ vrV 10 x.flags) ha9 (by simp only [List.length_append, List.length_nil] at hlen ⊢; omega)
 obtain ⟨a11, ha11, c11⟩ := wr_opt B x.minH 12 x.min (by omega) (by omega) (a10) (psV 1 (Kv.mars x.attrs) ++ fxV 2 x.start ++ fxV 3 x.time ++ fxV 4 x.count ++ opV 5 x.sumH x.sum ++ vrV 6 (k'2v x.scale) ++ fxV 7 x.zero ++ sdV 8 x.posH x.pos ++ sdV 9 x.negH x.neg ++ vrV 10 x.flags ++ psV 11 (x.exs.map Em.mar)) ha10 (by simp only [List.length_append, List.length_nil] at hlen ⊢; omega)
 obtain ⟨a12, ha12, c12⟩ := wr_opt B x.maxH 13 x.max (by omega) (by omega) (a11) (psV 1 (Kv.mars x.attrs) ++ fxV 2 x.start ++ fxV 3 x.time ++ fxV 4 x.count ++ opV 5 x.sumH x.sum ++ vrV 6 (k'2v x.scale) ++ fxV 7 x.zero ++ sdV 8 x.posH x.pos ++ sdV 9 x.negH x.neg ++ vrV 10 x.flags ++ psV 11 (x.exs.map Em.mar) ++ opV 12 x.minH x.min) ha11 (by simp only [List.length_append, List.length_nil] at hlen ⊢; omega)
 obtain ⟨a13, ha13, c13⟩ := k'1o B 14 x.thr (by omega) (by omega) (a12) (psV 1 (Kv.mars x.attrs) ++ fxV 2 x.start ++ fxV 3 x.time ++ fxV 4 x.count ++ opV 5 x.sumH x.sum ++ vrV 6 (k'2v x.scale) ++ fxV 7 x.zero ++ sdV 8 x.posH x.pos ++ sdV 9 x.negH x.neg ++ vrV 10 x.flags ++ psV 11 (x.exs.map Em.mar) ++ opV 12 x.minH x.min ++ opV 13 x.maxH x.max) ha12 (by simp only [List.length_append, List.length_nil] at hlen ⊢; omega)
 obtain ⟨cu, cs⟩ := k'26 B (s := x.u) ha13 (l := psV 1 (Kv.mars x.attrs) ++ fxV 2 x.start ++ fxV 3 x.time ++ fxV 4 x.count ++ opV 5 x.sumH x.sum ++ vrV 6 (k'2v x.scale) ++ fxV 7 x.zero ++ sdV 8 x.posH x.pos ++ sdV 9 x.negH x.neg ++ vrV 10 x.flags ++ psV 11 (x.exs.map Em.mar) ++ opV 12 x.minH x.min ++ opV 13 x.maxH x.max ++ fxV 14 x.thr) (by simp only [List.length_append] at hlen ⊢; omega)
 generalize psV 1 (Kv.mars x.attrs) ++ fxV 2 x.start ++ fxV 3 x.time ++ fxV 4 x.count ++ opV 5 x.sumH x.sum ++ vrV 6 (k'2v x.scale) ++ fxV 7 x.zero ++ sdV 8 x.posH x.pos ++ sdV 9 x.negH x.neg ++ vrV 10 x.flags ++ psV 11 (x.exs.map Em.mar) ++ opV 12 x.minH x.min ++ opV 13 x.maxH x.max ++ fxV 14 x.thr = o13 at c13 cu cs ⊢
 generalize psV 1 (Kv.mars x.attrs) ++ fxV 2 x.start ++ fxV 3 x.time ++ fxV 4 x.count ++ opV 5 x.sumH x.sum ++ vrV 6 (k'2v x.scale) ++ fxV 7 x.zero ++ sdV 8 x.posH x.pos ++ sdV 9 x.negH x.neg ++ vrV 10 x.flags ++ psV 11 (x.exs.map Em.mar) ++ opV 12 x.minH x.min ++ opV 13 x.maxH x.max = o12 at c12 c13
 generalize psV 1 (Kv.mars x.attrs) ++ fxV 2 x.start ++ fxV 3 x.time ++ fxV 4 x.count ++ opV 5 x.sumH x.sum ++ vrV 6 (k'2v x.scale) ++ fxV 7 x.zero ++ sdV 8 x.posH x.pos ++ sdV 9 x.negH x.neg ++ vrV 10 x.flags ++ psV 11 (x.exs.map Em.mar) ++ opV 12 x.minH x.min = o11 at c11 c12
 generalize psV 1 (Kv.mars x.attrs) ++ fxV 2 x.start ++ fxV 3 x.time ++ fxV 4 x.count ++ opV 5 x.sumH x.sum ++ vrV 6 (k'2v x.scale) ++ fxV 7 x.zero ++ sdV 8 x.posH x.pos ++ sdV 9 x.negH x.neg ++ vrV 10 x.flags ++ psV 11 (x.exs.map Em.mar) = o10 at c10 c11
 generalize psV 1 (Kv.mars x.attrs) ++ fxV 2 x.start ++ fxV 3 x.time ++ fxV 4 x.count ++ opV 5 x.sumH x.sum ++ vrV 6 (k'2v x.scale) ++ fxV 7 x.zero ++ sdV 8 x.posH x.pos ++ sdV 9 x.negH x.neg ++ vrV 10 x.flags = o9 at c9 c10
 generalize psV 1 (Kv.mars x.attrs) ++ fxV 2 x.start ++ fxV 3 x.time ++ fxV 4 x.count ++ opV 5 x.sumH x.sum ++ vrV 6 (k'2v x.scale) ++ fxV 7 x.zero ++ sdV 8 x.posH x.pos ++ sdV 9 x.negH x.neg = o8 at c8 c9
 generalize psV 1 (Kv.mars x.attrs) ++ fxV 2 x.start ++ fxV 3 x.time ++ fxV 4 x.count ++ opV 5 x.sumH x.sum ++ vrV 6 (k'2v x.scale) ++ fxV 7 x.zero ++ sdV 8 x.posH x.pos = o7 at c7 c8
 generalize psV 1 (Kv.mars x.attrs) ++ fxV 2 x.start ++ fxV 3 x.time ++ fxV 4 x.count ++ opV 5 x.sumH x.sum ++ vrV 6 (k'2v x.scale) ++ fxV 7 x.zero = o6 at c6 c7
 generalize psV 1 (Kv.mars x.attrs) ++ fxV 2 x.start ++ fxV 3 x.time ++ fxV 4 x.count ++ opV 5 x.sumH x.sum ++ vrV 6 (k'2v x.scale) = o5 at c5 c6
 generalize psV 1 (Kv.mars x.attrs) ++ fxV 2 x.start ++ fxV 3 x.time ++ fxV 4 x.count ++ opV 5 x.sumH x.sum = o4 at c4 c5
 generalize psV 1 (Kv.mars x.attrs) ++ fxV 2 x.start ++ fxV 3 x.time ++ fxV 4 x.count = o3 at c3 c4
 generalize psV 1 (Kv.mars x.attrs) ++ fxV 2 x.start ++ fxV 3 x.time = o2 at c2 c3
 generalize psV 1 (Kv.mars x.attrs) ++ fxV 2 x.start = o1 at c1 c2
 generalize psV 1 (Kv.mars x.attrs) = o0 at c0 c1
 refine l_bw Tryz.func320 0 [] ?_
 refine l_cw [] (hm) rfl rfl rfl ?_
 refine l_wr [1] (c0) k'22 ha0 ?_
 refine l_wr [1] (c1) ha0 ha1 ?_
 refine l_wr [1] (c2) ha1 ha2 ?_
 refine l_wr [1] (c3) ha2 ha3 ?_
 refine l_wr [1] (c4) ha3 ha4 ?_
 refine l_cw [] (Zig32_calls B x.scale w_scale.1 w_scale.2) rfl rfl rfl ?_
 refine l_wr [1] (c5) ha4 ha5 ?_
 refine l_wr [1] (c6) ha5 ha6 ?_
 rw [k'11 1 (by omega) (by omega) (by omega) hd2]
 refine l_wr [1] (c7) ha6 ha7 ?_
 rw [k'11 1 (by omega) (by omega) (by omega) hd2]
 refine l_wr [1] (c8) ha7 ha8 ?_
 rw [show IntKind.u64.wrap (x.flags : Int) = (x.flags : Int) by rw [IntKind.wrap_u64]; omega]
 refine l_wr [1] (c9) ha8 ha9 ?_
 refine l_wr [1] (c10) ha9 ha10 ?_
 refine l_wr [1] (c11) ha10 ha11 ?_
 refine l_wr [1] (c12) ha11 ha12 ?_
 refine l_wr [1] (c13) ha12 ha13 ?_
 refine l_wr [1] (cu) ha13 (.inl rfl) ?_
 refine k'1g [1] (cs) rfl rfl rfl rfl rfl rfl rfl (by decide) (by simp [k'5 (.inl rfl)]) rfl rfl rfl rfl ?_
 exact Z
theorem Parts_Eh_wr : PartsP B 319 EhSh := k'3j B Tryz.func319
theorem Parts_Eh_R : k'3o B 319 320 Eh.R Eh.sz Eh.wf Eh.may Eh.mar := Parts_R B (Parts_Eh_wr B) Eh.Rs_sh (Eh_Marshal_calls B)
theorem Eh_fits (l : List Eh) : ∀ a ∈ l.map Eh.d, a.fits 24 = true := by
 intro a ha
 obtain ⟨c, -, rfl⟩ := List.mem_map.1 ha
 rfl
theorem part_Eh_calls : partP B 369 Eh.d := k'2s B Tryz.func369
theorem List_Eh_calls : ListP B 288 Eh.d := List_S B (fun x => Eh_fits [x]) (part_Eh_calls B) (k'4u B Tryz.func288)
theorem List_Eh_tells : ListT B 288 Eh.d := k'1r B (List_Eh_calls B)
theorem okEh_rd (s : List UInt8) (d : Int) : okEh s d = (match k'd s d, k'3 (fun s => okK s (d - 1)) 1 (knB tbQ s d), k'3p (fun s => okB s (d - 1)) noBk 8 (knB tbQ s d), k'3p (fun s => okB s (d - 1)) noBk 9 (knB tbQ s d), k'3 (fun s => okEm s (d - 1)) 11 (knB tbQ s d) with
 | none, some attrs, some pos, some neg, some exs => some ⟨attrs, (k'6 (knB tbQ s d) 2).n, (k'6 (knB tbQ s d) 3).n, (k'6 (knB tbQ s d) 4).n, (hasL (knB tbQ s d) 5), (k'6 (knB tbQ s d) 5).n, (hasL (knB tbQ s d) 12), (k'6 (knB tbQ s d) 12).n, (hasL (knB tbQ s d) 13), (k'6 (knB tbQ s d) 13).n, zag32 (k'6 (knB tbQ s d) 6).n, (k'6 (knB tbQ s d) 7).n, pos.1, pos.2, neg.1, neg.2, exs, (k'6 (knB tbQ s d) 10).n % 4294967296, (k'6 (knB tbQ s d) 14).n, unB tbQ s d⟩
 | _, _, _, _, _ => none) := by
 unfold okEh
 rw [k'4a]
 cases k'd s d with
 | some e => rfl
 | none =>
  unfold tellEh
  simp only
  cases k'3 (fun s => okK s (d - 1)) 1 (knB tbQ s d) with
  | none => rfl
  | some attrs =>
   cases k'3p (fun s => okB s (d - 1)) noBk 8 (knB tbQ s d) with
   | none => rfl
   | some pos =>
    cases k'3p (fun s => okB s (d - 1)) noBk 9 (knB tbQ s d) with
    | none => rfl
    | some neg =>
     cases k'3 (fun s => okEm s (d - 1)) 11 (knB tbQ s d) with
     | none => rfl
     | some exs =>
      rfl
theorem Eh_read (hB : BOk B) (s : List UInt8) (d : Int) (hl : s.length < big) (hd1 : -9223372036854775808 ≤ d) (hd2 : d < 9223372036854775808) :
  RdZ B 289 Eh.d noEh (okEh s d) s d ∧ (∀ e0, k'd s d = some e0 → k'0 (cx B) 289 [sT s, .d (.int .i64 d)] [] (.tup [.d noEh.d, .d e0.d]) []) := by
 have h1 := k'o B hB 346 tbQ (tbQ_calls B) s d hl hd1 hd2
 have hk : LOk (knB tbQ s d) := k'e tbQ s d hl
 have hm := k'1p hk
 obtain ⟨vs_attrs, e1, c_attrs, t1⟩ := k'15 B hB (fun s => okK s (d - 1)) Kv.sh noKV 168 [] (k'd s d) (unB tbQ s d) d s.length (knB tbQ s d) 1 hk (fun h => by have := k'1u h; omega) hd2 (fun x hx hn => k'16 B hB x.s (d - 1) (lok_s hk hx) (by have := k'2e hx; omega) (by omega))
 obtain ⟨vs_exs, e2, c_exs, t2⟩ := k'4v B hB (fun s => okEm s (d - 1)) id noEm 364 [] e1 (unB tbQ s d) d s.length (knB tbQ s d) 11 hk (fun h => by have := k'1u h; omega) hd2 (fun x hx hn => (Em_read B hB x.s (d - 1) (lok_s hk hx) (by have := k'2e hx; omega) (by omega)).1.at)
 obtain ⟨vs_pos, e3, c_pos, t3⟩ := (Part_Bk B).tells B hB (fun s => okB s (d - 1)) id noBk rfl 372 [] e2 (unB tbQ s d) d s.length (knB tbQ s d) 8 hk (fun h => by have := k'1u h; omega) hd2 (fun h => UB_rd B hB _ (d - 1) (k'50 hk 8) (by have := k'1u h; omega) (by omega))
 obtain ⟨vs_neg, e4, c_neg, t4⟩ := (Part_Bk B).tells B hB (fun s => okB s (d - 1)) id noBk rfl 372 [] e3 (unB tbQ s d) d s.length (knB tbQ s d) 9 hk (fun h => by have := k'1u h; omega) hd2 (fun h => UB_rd B hB _ (d - 1) (k'50 hk 9) (by have := k'1u h; omega) (by omega))
 have hein : ∀ x, e4 = some x → EIn s.length x := t4.ein (t3.ein (t2.ein (t1.ein (fun x hx => k'n hx))))
 have main : k'0 (cx B) 289 [sT s, .d (.int .i64 d)] [] (.tup [.d (orD e4 (.agg [slD (vs_attrs.map KVs.d), .int .u64 (k'6 (knB tbQ s d) 2).n, .int .u64 (k'6 (knB tbQ s d) 3).n, .int .u64 (k'6 (knB tbQ s d) 4).n, .bool (hasL (knB tbQ s d) 5), .int .u64 (k'6 (knB tbQ s d) 5).n, .bool (hasL (knB tbQ s d) 12), .int .u64 (k'6 (knB tbQ s d) 12).n, .bool (hasL (knB tbQ s d) 13), .int .u64 (k'6 (knB tbQ s d) 13).n, .int .i32 (zag32 (k'6 (knB tbQ s d) 6).n), .int .u64 (k'6 (knB tbQ s d) 7).n, .bool vs_pos.1, .int .i32 vs_pos.2.off, slD (vs_pos.2.cs.map uD), .str vs_pos.2.u, .bool vs_neg.1, .int .i32 vs_neg.2.off, slD (vs_neg.2.cs.map uD), .str vs_neg.2.u, slD (vs_exs.map Em.d), .int .u32 ((k'6 (knB tbQ s d) 10).n % 4294967296 : Nat), .int .u64 (k'6 (knB tbQ s d) 14).n, .str (unB tbQ s d)]) noEh.d), .d (eD e4)]) [] := by
  clear hein t1 t2 t3 t4
  refine l_bw Tryz.func289 0 [] ?_
  refine l_cw [] (h1) rfl rfl rfl ?_
  refine k'3q (i0 := 31) (z := 32) (t0 := 7) rfl (by decide) rfl rfl rfl rfl rfl rfl rfl rfl rfl rfl ?_
  refine Y ?_
  refine x_cw [1] (c_attrs) rfl rfl rfl ?_
  refine x_cw [1] (k'9 B e1 (unB tbQ s d) d s.length (knB tbQ s d) 2 hm) rfl rfl rfl ?_
  refine x_cw [1] (k'9 B e1 (unB tbQ s d) d s.length (knB tbQ s d) 3 hm) rfl rfl rfl ?_
  refine x_cw [1] (k'9 B e1 (unB tbQ s d) d s.length (knB tbQ s d) 4 hm) rfl rfl rfl ?_
  refine x_cw [1] (k'52 B e1 (unB tbQ s d) d s.length (knB tbQ s d) 5 hm) rfl rfl rfl ?_
  refine x_cw [1] (k'52 B e1 (unB tbQ s d) d s.length (knB tbQ s d) 12 hm) rfl rfl rfl ?_
  refine x_cw [1] (k'52 B e1 (unB tbQ s d) d s.length (knB tbQ s d) 13 hm) rfl rfl rfl ?_
  refine x_cw [1] (k'9 B e1 (unB tbQ s d) d s.length (knB tbQ s d) 6 hm) rfl rfl rfl ?_
  refine x_cw [] (Zag32_calls B (k'6 (knB tbQ s d) 6).n (lastF_n hk 6)) rfl rfl rfl ?_
  refine x_cw [1] (k'9 B e1 (unB tbQ s d) d s.length (knB tbQ s d) 7 hm) rfl rfl rfl ?_
  refine x_cw [1] (c_exs) rfl rfl rfl ?_
  refine x_cw [1] (k'9 B e2 (unB tbQ s d) d s.length (knB tbQ s d) 10 hm) rfl rfl rfl ?_
  rw [u32w]
  refine x_cw [1] (k'9 B e2 (unB tbQ s d) d s.length (knB tbQ s d) 14 hm) rfl rfl rfl ?_
  refine l_cw [1] (c_pos) rfl rfl rfl ?_
  refine l_cw [1] (c_neg) rfl rfl rfl ?_
  cases e4 with
  | none =>
   exact Z
  | some er =>
   cases er <;> (
   exact Z)
 constructor
 ·rw [okEh_rd]
  cases e4 with
  | none =>
   obtain ⟨k3, a_neg, g_neg, v_neg⟩ := t4.ok
   subst k3
   obtain ⟨k2, a_pos, g_pos, v_pos⟩ := t3.ok
   subst k2
   obtain ⟨k1, a_exs, g_exs, v_exs⟩ := t2.ok
   subst k1
   obtain ⟨k0, a_attrs, g_attrs, v_attrs⟩ := t1.ok
   rw [k0, g_attrs, g_pos, g_neg, g_exs]
   subst v_attrs
   simp only [id_eq] at v_pos
   subst v_pos
   simp only [id_eq] at v_neg
   subst v_neg
   rw [List.map_id] at v_exs
   subst v_exs
   rw [ks_map a_attrs] at main
   exact main
  | some er =>
   have hno : (match k'd s d, k'3 (fun s => okK s (d - 1)) 1 (knB tbQ s d), k'3p (fun s => okB s (d - 1)) noBk 8 (knB tbQ s d), k'3p (fun s => okB s (d - 1)) noBk 9 (knB tbQ s d), k'3 (fun s => okEm s (d - 1)) 11 (knB tbQ s d) with
    | none, some attrs, some pos, some neg, some exs => some (⟨attrs, (k'6 (knB tbQ s d) 2).n, (k'6 (knB tbQ s d) 3).n, (k'6 (knB tbQ s d) 4).n, (hasL (knB tbQ s d) 5), (k'6 (knB tbQ s d) 5).n, (hasL (knB tbQ s d) 12), (k'6 (knB tbQ s d) 12).n, (hasL (knB tbQ s d) 13), (k'6 (knB tbQ s d) 13).n, zag32 (k'6 (knB tbQ s d) 6).n, (k'6 (knB tbQ s d) 7).n, pos.1, pos.2, neg.1, neg.2, exs, (k'6 (knB tbQ s d) 10).n % 4294967296, (k'6 (knB tbQ s d) 14).n, unB tbQ s d⟩ : Eh)
    | _, _, _, _, _ => none) = none := by
    cases hr : k'd s d with
    | some x => rfl
    | none =>
     rw [hr] at t1
     cases hp0 : k'3 (fun s => okK s (d - 1)) 1 (knB tbQ s d) with
     | none => rfl
     | some a0 =>
      rw [hp0] at t1
      obtain ⟨-, q0⟩ := t1.get
      subst q0
      cases hp1 : k'3 (fun s => okEm s (d - 1)) 11 (knB tbQ s d) with
      | none => split <;> simp_all
      | some a1 =>
       rw [hp1] at t2
       obtain ⟨-, q1⟩ := t2.get
       subst q1
       cases hp2 : k'3p (fun s => okB s (d - 1)) noBk 8 (knB tbQ s d) with
       | none => split <;> simp_all
       | some a2 =>
        rw [hp2] at t3
        obtain ⟨-, q2⟩ := t3.get
        subst q2
        cases hp3 : k'3p (fun s => okB s (d - 1)) noBk 9 (knB tbQ s d) with
        | none => split <;> simp_all
        | some a3 =>
         rw [hp3] at t4
         have := t4.get.2; simp at this
   rw [hno]
   exact ⟨er, hein er rfl, main⟩
 ·intro e0 he
  rw [he] at t1
  have k1 := t1.keep
  subst k1
  have k2 := t2.keep
  subst k2
  have k3 := t3.keep
  subst k3
  have k4 := t4.keep
  subst k4
  exact main
