/- Exp: alike, may they be, written, read. -/
import Derived.Test.YtnaojdjhjkendaaGreatDoorQP
set_option linter.unusedSimpArgs false
set_option linter.unusedVariables false
set_option maxRecDepth 100000
namespace Go.Proofs.YtnaojdjhjkendaaGreatDoor
open Go Go.Abs
variable (B : Fr)
def Eh.d (x : Eh) : D := .agg [slD (Kv.ds x.attrs), .int .u64 x.start, .int .u64 x.time, .int .u64 x.count, .bool x.sumH, .int .u64 x.sum, .bool x.minH, .int .u64 x.min, .bool x.maxH, .int .u64 x.max, .int .i32 x.scale, .int .u64 x.zero, .bool x.posH, .int .i32 x.pos.off, slD (x.pos.cs.map uD), .str x.pos.u, .bool x.negH, .int .i32 x.neg.off, slD (x.neg.cs.map uD), .str x.neg.u, slD (x.exs.map Em.d), .int .u32 x.flags, .int .u64 x.thr, .str x.u]
def Eh.R (x : Eh) (a : D) : Prop := ∃ (z_attrs : Bool) (l_attrs : List D) (z_pos : Bool) (z_neg : Bool) (z_exs : Bool) (l_exs : List D), a = .agg [.sl z_attrs l_attrs, .int .u64 x.start, .int .u64 x.time, .int .u64 x.count, .bool x.sumH, .int .u64 x.sum, .bool x.minH, .int .u64 x.min, .bool x.maxH, .int .u64 x.max, .int .i32 x.scale, .int .u64 x.zero, .bool x.posH, .int .i32 x.pos.off, .sl z_pos (x.pos.cs.map uD), .str x.pos.u, .bool x.negH, .int .i32 x.neg.off, .sl z_neg (x.neg.cs.map uD), .str x.neg.u, .sl z_exs l_exs, .int .u32 x.flags, .int .u64 x.thr, .str x.u] ∧ Kv.Rs x.attrs l_attrs ∧ RsOf Em.R x.exs l_exs
def EhSh (x : D) : Prop := ∃ (a0 : Bool) (a1 : List D) (a2 : Nat) (a3 : Nat) (a4 : Nat) (a5 : Bool) (a6 : Nat) (a7 : Bool) (a8 : Nat) (a9 : Bool) (a10 : Nat) (a11 : Int) (a12 : Nat) (a13 : Bool) (a14 : Int) (a15 : Bool) (a16 : List D) (a17 : List UInt8) (a18 : Bool) (a19 : Int) (a20 : Bool) (a21 : List D) (a22 : List UInt8) (a23 : Bool) (a24 : List D) (a25 : Nat) (a26 : Nat) (a27 : List UInt8), x = .agg [.sl a0 a1, .int .u64 a2, .int .u64 a3, .int .u64 a4, .bool a5, .int .u64 a6, .bool a7, .int .u64 a8, .bool a9, .int .u64 a10, .int .i32 a11, .int .u64 a12, .bool a13, .int .i32 a14, .sl a15 a16, .str a17, .bool a18, .int .i32 a19, .sl a20 a21, .str a22, .sl a23 a24, .int .u32 a25, .int .u64 a26, .str a27]
theorem Eh.R_sh {x : Eh} {a : D} (h : x.R a) : EhSh a := by
 obtain ⟨z_attrs, l_attrs, z_pos, z_neg, z_exs, l_exs, h, -⟩ := h
 exact ⟨_, _, _, _, _, _, _, _, _, _, _, _, _, _, _, _, _, _, _, _, _, _, _, _, _, _, _, _, h⟩
theorem Eh.Rs_sh {l : List Eh} {xs : List D} (h : RsOf Eh.R l xs) : ∀ x ∈ xs, EhSh x := fun x hx => by
 obtain ⟨v, -, r⟩ := h.mem hx
 exact Eh.R_sh r
theorem Eh_May_calls (x : Eh) (xa : D) (d : Int) (hbig : x.sz < big) (hx : x.R xa) (hd1 : -9223372036854775808 ≤ d) (hd2 : d < 9223372036854775808) : k'0 (cx B) 142 [.d xa, .d (.int .i64 d)] [] (.d (.bool (x.may d))) [] := by
 obtain ⟨z_attrs, l_attrs, z_pos, z_neg, z_exs, l_exs, rfl, r_attrs, r_exs⟩ := hx
 unfold Eh.sz at hbig
 unfold Eh.may
 by_cases hd0 : 0 ≤ d
 rotate_left
 ·rw [show decide (0 ≤ d) = false from decide_eq_false hd0]
  refine l_bw Tryz.func142 0 [] ?_
  rw [show decide (d ≥ 0) = false from decide_eq_false hd0]
  exact Z
 have c_u := k'1e B 176 tbQ (tbQ_calls B) x.u d (by omega) (by omega) hd2
 have c_opts := MayOpt3_calls B x.sumH x.sum x.minH x.min x.maxH x.max
 have c_pos := maySide_calls B z_pos x.posH x.pos (d - 1) (by omega) (by omega) (by omega)
 have c_neg := maySide_calls B z_neg x.negH x.neg (d - 1) (by omega) (by omega) (by omega)
 have c_exs := All_Em_R B z_exs d (by omega) hd0 hd2 r_exs
 have c_attrs := k'1p B (a := x.attrs) z_attrs (d - 1) (by omega) (by omega) (by omega) r_attrs
 refine l_bw Tryz.func142 0 [] ?_
 rw [show decide (d ≥ 0) = decide (0 ≤ d) from rfl]
 cases e0 : (decide (0 ≤ d))
 ·exact Z
 refine Y ?_
 (first | refine k'19 (.buildSlice (es := [.agg [.bool x.sumH, .int .u64 x.sum], .agg [.bool x.minH, .int .u64 x.min], .agg [.bool x.maxH, .int .u64 x.max]]) rfl rfl rfl rfl rfl rfl (by intro x hx; simp at hx; rcases hx with rfl | rfl | rfl <;> rfl) (by simp) (by decide) (by decide)) rfl rfl rfl rfl ?_ | refine k'1 (.buildSlice (es := [.agg [.bool x.sumH, .int .u64 x.sum], .agg [.bool x.minH, .int .u64 x.min], .agg [.bool x.maxH, .int .u64 x.max]]) rfl rfl rfl rfl rfl rfl (by intro x hx; simp at hx; rcases hx with rfl | rfl | rfl <;> rfl) (by simp) (by decide) (by decide)) rfl rfl ?_)
 refine Y ?_
 refine k'2d [] (c_opts) rfl rfl rfl rfl rfl ?_
 cases e1 : (k'h x.sumH x.sum && k'h x.minH x.min && k'h x.maxH x.max)
 ·exact Z
 refine Y ?_
 rw [k'4 1 (by omega) (by omega) (by omega) hd2]
 refine k'2d [] (c_pos) rfl rfl rfl rfl rfl ?_
 cases e2 : (maySd x.posH x.pos (d - 1))
 ·exact Z
 refine Y ?_
 rw [k'4 1 (by omega) (by omega) (by omega) hd2]
 refine k'2d [] (c_neg) rfl rfl rfl rfl rfl ?_
 cases e3 : (maySd x.negH x.neg (d - 1))
 ·exact Z
 refine Y ?_
 refine k'2d [] (c_exs) rfl rfl rfl rfl rfl ?_
 cases e4 : (x.exs.all fun k => k.may (d - 1))
 ·exact Z
 refine Y ?_
 rw [k'4 1 (by omega) (by omega) (by omega) hd2]
 refine k'2d [] (c_attrs) rfl rfl rfl rfl rfl ?_
 cases e5 : (x.attrs.all fun k => k.may (d - 1))
 ·exact Z
 refine Y ?_
 refine k'7 [] (c_u) rfl rfl rfl rfl rfl ?_
 exact Z
theorem All_Eh_calls : AllP B 141 EhSh := All_of B (All1_mk B Tryz.func232) (k'39 B Tryz.func296) (Cont_mk B Tryz.func231) (Allc_mk B Tryz.func141)
theorem All_Eh_R : AllRP B 141 142 Eh.R Eh.sz Eh.may := All_R B (All_Eh_calls B) Eh.Rs_sh (fun x => by unfold Eh.sz; omega) (Eh_May_calls B)
theorem Eh_Marshal_calls (x : Eh) (xa : D) (d : Int) (hbig : x.sz < big) (hwf : x.wf) (hx : x.R xa) (hd1 : -9223372036854775808 ≤ d) (hd2 : d < 9223372036854775808) : k'0 (cx B) 129 [.d xa, .d (.int .i64 d)] [] (if x.may d then .tup [sT x.mar, .d .nili] else .tup [sT [], .d (Er.code 8).d]) [] := by
 have hm := Eh_May_calls B x xa d hbig hx hd1 hd2
 have hlen := Eh.mar_len x
 have hlen : x.mar.length < big := by omega
 obtain ⟨z_attrs, l_attrs, z_pos, z_neg, z_exs, l_exs, rfl, r_attrs, r_exs⟩ := hx
 unfold Eh.sz at hbig
 cases hc : x.may d
 ·rw [hc] at hm
  refine l_bw Tryz.func129 0 [] ?_
  refine k'2 [] (hm) rfl rfl rfl ?_
  exact Z
 rw [hc] at hm
 have hc' := hc
 unfold Eh.may at hc'
 simp only [Bool.and_eq_true, decide_eq_true_eq] at hc'
 obtain ⟨⟨⟨⟨⟨⟨hd, ⟨⟨m_sum, m_min⟩, m_max⟩⟩, m_pos⟩, m_neg⟩, m_exs⟩, m_attrs⟩, hu⟩ := hc'
 obtain ⟨w_attrs, w_start, w_time, w_count, w_sum, w_min, w_max, w_scale, w_zero, w_pos, w_neg, w_exs, w_flags, w_thr⟩ := hwf
 unfold Eh.mar Eh.hb at hlen ⊢
 obtain ⟨a0, ha0, c0⟩ := k'38 B 1 (by omega) (by omega) z_attrs d (by omega) w_attrs m_attrs hd hd2 r_attrs (.nw 122 2) [] k'31 (by simp only [List.length_append, List.length_nil] at hlen ⊢; omega)
 rw [List.nil_append] at c0
 obtain ⟨a1, ha1, c1⟩ := k'1b B 2 x.start (by omega) (by omega) (a0) (psV 1 (Kv.mars x.attrs)) ha0 (by simp only [List.length_append, List.length_nil] at hlen ⊢; omega)
 obtain ⟨a2, ha2, c2⟩ := k'1b B 3 x.time (by omega) (by omega) (a1) (psV 1 (Kv.mars x.attrs) ++ fxV 2 x.start) ha1 (by simp only [List.length_append, List.length_nil] at hlen ⊢; omega)
 obtain ⟨a3, ha3, c3⟩ := k'1b B 4 x.count (by omega) (by omega) (a2) (psV 1 (Kv.mars x.attrs) ++ fxV 2 x.start ++ fxV 3 x.time) ha2 (by simp only [List.length_append, List.length_nil] at hlen ⊢; omega)
 obtain ⟨a4, ha4, c4⟩ := wr_opt B x.sumH 5 x.sum (by omega) (by omega) (a3) (psV 1 (Kv.mars x.attrs) ++ fxV 2 x.start ++ fxV 3 x.time ++ fxV 4 x.count) ha3 (by simp only [List.length_append, List.length_nil] at hlen ⊢; omega)
 obtain ⟨a5, ha5, c5⟩ := wr_var B 6 (k'2b x.scale) (by omega) (by omega) (zig32_lt _ w_scale.1 w_scale.2) (a4) (psV 1 (Kv.mars x.attrs) ++ fxV 2 x.start ++ fxV 3 x.time ++ fxV 4 x.count ++ opV 5 x.sumH x.sum) ha4 (by simp only [List.length_append, List.length_nil] at hlen ⊢; omega)
 obtain ⟨a6, ha6, c6⟩ := k'1b B 7 x.zero (by omega) (by omega) (a5) (psV 1 (Kv.mars x.attrs) ++ fxV 2 x.start ++ fxV 3 x.time ++ fxV 4 x.count ++ opV 5 x.sumH x.sum ++ vrV 6 (k'2b x.scale)) ha5 (by simp only [List.length_append, List.length_nil] at hlen ⊢; omega)
 obtain ⟨a7, ha7, c7⟩ := wr_side B z_pos x.posH x.pos 8 (d - 1) (by omega) (by omega) (by omega) w_pos m_pos (by omega) (by omega) (a6) (psV 1 (Kv.mars x.attrs) ++ fxV 2 x.start ++ fxV 3 x.time ++ fxV 4 x.count ++ opV 5 x.sumH x.sum ++ vrV 6 (k'2b x.scale) ++ fxV 7 x.zero) ha6 (by simp only [List.length_append, List.length_nil] at hlen ⊢; omega)
 obtain ⟨a8, ha8, c8⟩ := wr_side B z_neg x.negH x.neg 9 (d - 1) (by omega) (by omega) (by omega) w_neg m_neg (by omega) (by omega) (a7) (psV 1 (Kv.mars x.attrs) ++ fxV 2 x.start ++ fxV 3 x.time ++ fxV 4 x.count ++ opV 5 x.sumH x.sum ++ vrV 6 (k'2b x.scale) ++ fxV 7 x.zero ++ sdV 8 x.posH x.pos) ha7 (by simp only [List.length_append, List.length_nil] at hlen ⊢; omega)
 obtain ⟨a9, ha9, c9⟩ := wr_var B 10 x.flags (by omega) (by omega) (by omega) (a8) (psV 1 (Kv.mars x.attrs) ++ fxV 2 x.start ++ fxV 3 x.time ++ fxV 4 x.count ++ opV 5 x.sumH x.sum ++ vrV 6 (k'2b x.scale) ++ fxV 7 x.zero ++ sdV 8 x.posH x.pos ++ sdV 9 x.negH x.neg) ha8 (by simp only [List.length_append, List.length_nil] at hlen ⊢; omega)
 obtain ⟨a10, ha10, c10⟩ := Parts_Em_R B 11 (by omega) (by omega) z_exs d (by omega) w_exs m_exs hd hd2 r_exs (a9) (psV 1 (Kv.mars x.attrs) ++ fxV 2 x.start ++ fxV 3 x.time ++ fxV 4 x.count ++ opV 5 x.sumH x.sum ++ vrV 6 (k'2b x.scale) ++ fxV 7 x.zero ++ sdV 8 x.posH x.pos ++ sdV 9 x.negH x.neg ++ vrV 10 x.flags) ha9 (by simp only [List.length_append, List.length_nil] at hlen ⊢; omega)
 obtain ⟨a11, ha11, c11⟩ := wr_opt B x.minH 12 x.min (by omega) (by omega) (a10) (psV 1 (Kv.mars x.attrs) ++ fxV 2 x.start ++ fxV 3 x.time ++ fxV 4 x.count ++ opV 5 x.sumH x.sum ++ vrV 6 (k'2b x.scale) ++ fxV 7 x.zero ++ sdV 8 x.posH x.pos ++ sdV 9 x.negH x.neg ++ vrV 10 x.flags ++ psV 11 (x.exs.map Em.mar)) ha10 (by simp only [List.length_append, List.length_nil] at hlen ⊢; omega)
 obtain ⟨a12, ha12, c12⟩ := wr_opt B x.maxH 13 x.max (by omega) (by omega) (a11) (psV 1 (Kv.mars x.attrs) ++ fxV 2 x.start ++ fxV 3 x.time ++ fxV 4 x.count ++ opV 5 x.sumH x.sum ++ vrV 6 (k'2b x.scale) ++ fxV 7 x.zero ++ sdV 8 x.posH x.pos ++ sdV 9 x.negH x.neg ++ vrV 10 x.flags ++ psV 11 (x.exs.map Em.mar) ++ opV 12 x.minH x.min) ha11 (by simp only [List.length_append, List.length_nil] at hlen ⊢; omega)
 obtain ⟨a13, ha13, c13⟩ := k'1b B 14 x.thr (by omega) (by omega) (a12) (psV 1 (Kv.mars x.attrs) ++ fxV 2 x.start ++ fxV 3 x.time ++ fxV 4 x.count ++ opV 5 x.sumH x.sum ++ vrV 6 (k'2b x.scale) ++ fxV 7 x.zero ++ sdV 8 x.posH x.pos ++ sdV 9 x.negH x.neg ++ vrV 10 x.flags ++ psV 11 (x.exs.map Em.mar) ++ opV 12 x.minH x.min ++ opV 13 x.maxH x.max) ha12 (by simp only [List.length_append, List.length_nil] at hlen ⊢; omega)
 obtain ⟨cu, cs⟩ := k'2x B (s := x.u) ha13 (l := psV 1 (Kv.mars x.attrs) ++ fxV 2 x.start ++ fxV 3 x.time ++ fxV 4 x.count ++ opV 5 x.sumH x.sum ++ vrV 6 (k'2b x.scale) ++ fxV 7 x.zero ++ sdV 8 x.posH x.pos ++ sdV 9 x.negH x.neg ++ vrV 10 x.flags ++ psV 11 (x.exs.map Em.mar) ++ opV 12 x.minH x.min ++ opV 13 x.maxH x.max ++ fxV 14 x.thr) (by simp only [List.length_append] at hlen ⊢; omega)
 generalize psV 1 (Kv.mars x.attrs) ++ fxV 2 x.start ++ fxV 3 x.time ++ fxV 4 x.count ++ opV 5 x.sumH x.sum ++ vrV 6 (k'2b x.scale) ++ fxV 7 x.zero ++ sdV 8 x.posH x.pos ++ sdV 9 x.negH x.neg ++ vrV 10 x.flags ++ psV 11 (x.exs.map Em.mar) ++ opV 12 x.minH x.min ++ opV 13 x.maxH x.max ++ fxV 14 x.thr = o13 at c13 cu cs ⊢
 generalize psV 1 (Kv.mars x.attrs) ++ fxV 2 x.start ++ fxV 3 x.time ++ fxV 4 x.count ++ opV 5 x.sumH x.sum ++ vrV 6 (k'2b x.scale) ++ fxV 7 x.zero ++ sdV 8 x.posH x.pos ++ sdV 9 x.negH x.neg ++ vrV 10 x.flags ++ psV 11 (x.exs.map Em.mar) ++ opV 12 x.minH x.min ++ opV 13 x.maxH x.max = o12 at c12 c13
 generalize psV 1 (Kv.mars x.attrs) ++ fxV 2 x.start ++ fxV 3 x.time ++ fxV 4 x.count ++ opV 5 x.sumH x.sum ++ vrV 6 (k'2b x.scale) ++ fxV 7 x.zero ++ sdV 8 x.posH x.pos ++ sdV 9 x.negH x.neg ++ vrV 10 x.flags ++ psV 11 (x.exs.map Em.mar) ++ opV 12 x.minH x.min = o11 at c11 c12
 generalize psV 1 (Kv.mars x.attrs) ++ fxV 2 x.start ++ fxV 3 x.time ++ fxV 4 x.count ++ opV 5 x.sumH x.sum ++ vrV 6 (k'2b x.scale) ++ fxV 7 x.zero ++ sdV 8 x.posH x.pos ++ sdV 9 x.negH x.neg ++ vrV 10 x.flags ++ psV 11 (x.exs.map Em.mar) = o10 at c10 c11
 generalize psV 1 (Kv.mars x.attrs) ++ fxV 2 x.start ++ fxV 3 x.time ++ fxV 4 x.count ++ opV 5 x.sumH x.sum ++ vrV 6 (k'2b x.scale) ++ fxV 7 x.zero ++ sdV 8 x.posH x.pos ++ sdV 9 x.negH x.neg ++ vrV 10 x.flags = o9 at c9 c10
 generalize psV 1 (Kv.mars x.attrs) ++ fxV 2 x.start ++ fxV 3 x.time ++ fxV 4 x.count ++ opV 5 x.sumH x.sum ++ vrV 6 (k'2b x.scale) ++ fxV 7 x.zero ++ sdV 8 x.posH x.pos ++ sdV 9 x.negH x.neg = o8 at c8 c9
 generalize psV 1 (Kv.mars x.attrs) ++ fxV 2 x.start ++ fxV 3 x.time ++ fxV 4 x.count ++ opV 5 x.sumH x.sum ++ vrV 6 (k'2b x.scale) ++ fxV 7 x.zero ++ sdV 8 x.posH x.pos = o7 at c7 c8
 generalize psV 1 (Kv.mars x.attrs) ++ fxV 2 x.start ++ fxV 3 x.time ++ fxV 4 x.count ++ opV 5 x.sumH x.sum ++ vrV 6 (k'2b x.scale) ++ fxV 7 x.zero = o6 at c6 c7
 generalize psV 1 (Kv.mars x.attrs) ++ fxV 2 x.start ++ fxV 3 x.time ++ fxV 4 x.count ++ opV 5 x.sumH x.sum ++ vrV 6 (k'2b x.scale) = o5 at c5 c6
 generalize psV 1 (Kv.mars x.attrs) ++ fxV 2 x.start ++ fxV 3 x.time ++ fxV 4 x.count ++ opV 5 x.sumH x.sum = o4 at c4 c5
 generalize psV 1 (Kv.mars x.attrs) ++ fxV 2 x.start ++ fxV 3 x.time ++ fxV 4 x.count = o3 at c3 c4
 generalize psV 1 (Kv.mars x.attrs) ++ fxV 2 x.start ++ fxV 3 x.time = o2 at c2 c3
 generalize psV 1 (Kv.mars x.attrs) ++ fxV 2 x.start = o1 at c1 c2
 generalize psV 1 (Kv.mars x.attrs) = o0 at c0 c1
 refine l_bw Tryz.func129 0 [] ?_
 refine l_cw [] (hm) rfl rfl rfl ?_
 refine l_wr [1] (c0) k'31 ha0 ?_
 refine l_wr [1] (c1) ha0 ha1 ?_
 refine l_wr [1] (c2) ha1 ha2 ?_
 refine l_wr [1] (c3) ha2 ha3 ?_
 refine l_wr [1] (c4) ha3 ha4 ?_
 refine l_cw [] (Zig32_calls B x.scale w_scale.1 w_scale.2) rfl rfl rfl ?_
 refine l_wr [1] (c5) ha4 ha5 ?_
 refine l_wr [1] (c6) ha5 ha6 ?_
 rw [k'4 1 (by omega) (by omega) (by omega) hd2]
 refine l_wr [1] (c7) ha6 ha7 ?_
 rw [k'4 1 (by omega) (by omega) (by omega) hd2]
 refine l_wr [1] (c8) ha7 ha8 ?_
 rw [show IntKind.u64.wrap (x.flags : Int) = (x.flags : Int) by rw [IntKind.wrap_u64]; omega]
 refine l_wr [1] (c9) ha8 ha9 ?_
 refine l_wr [1] (c10) ha9 ha10 ?_
 refine l_wr [1] (c11) ha10 ha11 ?_
 refine l_wr [1] (c12) ha11 ha12 ?_
 refine l_wr [1] (c13) ha12 ha13 ?_
 refine l_wr [1] (cu) ha13 (.inl rfl) ?_
 refine k'1r [1] (cs) rfl rfl rfl rfl rfl rfl rfl (by decide) (by simp [k'5 (.inl rfl)]) rfl rfl rfl rfl ?_
 exact Z
theorem Parts_Eh_wr : PartsP B 128 EhSh := k'4b B Tryz.func128
theorem Parts_Eh_R : PartsRP B 128 129 Eh.R Eh.sz Eh.wf Eh.may Eh.mar := Parts_R B (Parts_Eh_wr B) Eh.Rs_sh (Eh_Marshal_calls B)
