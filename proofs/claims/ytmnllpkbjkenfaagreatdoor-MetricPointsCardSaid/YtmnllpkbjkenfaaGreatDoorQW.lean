/- Exp: alike, may they be, written, read. -/
import Derived.Test.YtmnllpkbjkenfaaGreatDoorQP
set_option linter.unusedSimpArgs false
set_option linter.unusedVariables false
set_option maxRecDepth 100000
namespace Go.Proofs.YtmnllpkbjkenfaaGreatDoor
open Go Go.Abs
variable (B : Fr)
def Eh.d (x : Eh) : D := .agg [slD (Kv.ds x.attrs), .int .u64 x.start, .int .u64 x.time, .int .u64 x.count, .bool x.sumH, .int .u64 x.sum, .bool x.minH, .int .u64 x.min, .bool x.maxH, .int .u64 x.max, .int .i32 x.scale, .int .u64 x.zero, .bool x.posH, .int .i32 x.pos.off, slD (x.pos.cs.map uD), .str x.pos.u, .bool x.negH, .int .i32 x.neg.off, slD (x.neg.cs.map uD), .str x.neg.u, slD (x.exs.map Em.d), .int .u32 x.flags, .int .u64 x.thr, .str x.u]
def Eh.R (x : Eh) (a : D) : Prop := ∃ (z_attrs : Bool) (l_attrs : List D) (z_pos : Bool) (z_neg : Bool) (z_exs : Bool) (l_exs : List D), a = .agg [.sl z_attrs l_attrs, .int .u64 x.start, .int .u64 x.time, .int .u64 x.count, .bool x.sumH, .int .u64 x.sum, .bool x.minH, .int .u64 x.min, .bool x.maxH, .int .u64 x.max, .int .i32 x.scale, .int .u64 x.zero, .bool x.posH, .int .i32 x.pos.off, .sl z_pos (x.pos.cs.map uD), .str x.pos.u, .bool x.negH, .int .i32 x.neg.off, .sl z_neg (x.neg.cs.map uD), .str x.neg.u, .sl z_exs l_exs, .int .u32 x.flags, .int .u64 x.thr, .str x.u] ∧ Kv.Rs x.attrs l_attrs ∧ RsOf Em.R x.exs l_exs
def EhSh (x : D) : Prop := ∃ (a0 : Bool) (a1 : List D) (a2 : Nat) (a3 : Nat) (a4 : Nat) (a5 : Bool) (a6 : Nat) (a7 : Bool) (a8 : Nat) (a9 : Bool) (a10 : Nat) (a11 : Int) (a12 : Nat) (a13 : Bool) (a14 : Int) (a15 : Bool) (a16 : List D) (a17 : List UInt8) (a18 : Bool) (a19 : Int) (a20 : Bool) (a21 : List D) (a22 : List UInt8) (a23 : Bool) (a24 : List D) (a25 : Nat) (a26 : Nat) (a27 : List UInt8), x = .agg [.sl a0 a1, .int .u64 a2, .int .u64 a3, .int .u64 a4, .bool a5, .int .u64 a6, .bool a7, .int .u64 a8, .bool a9, .int .u64 a10, .int .i32 a11, .int .u64 a12, .bool a13, .int .i32 a14, .sl a15 a16, .str a17, .bool a18, .int .i32 a19, .sl a20 a21, .str a22, .sl a23 a24, .int .u32 a25, .int .u64 a26, .str a27]
theorem Eh.R_sh {x : Eh} {a : D} (h : x.R a) : EhSh a := by
 obtain ⟨z_attrs, l_attrs, z_pos, z_neg, z_exs, l_exs, h, -⟩ := h
 exact ⟨_, _, _, _, _, _, _, _, _, _, _, _, _, _, _, _, _, _, _, _, _, _, _, _, _, _, _, _, h⟩
theorem Eh.d_R (x : Eh) : x.R x.d := ⟨_, _, _, _, _, _, rfl, Kv.ds_R _, RsOf.map Em.d_R _⟩
theorem Eh.Rs_sh {l : List Eh} {xs : List D} (h : RsOf Eh.R l xs) : ∀ x ∈ xs, EhSh x := fun x hx => by
 obtain ⟨v, -, r⟩ := h.mem hx
 exact Eh.R_sh r
theorem Eh_May_calls (x : Eh) (xa : D) (d : Int) (hbig : x.sz < big) (hx : x.R xa) (hd1 : -9223372036854775808 ≤ d) (hd2 : d < 9223372036854775808) : k'1 (cx B) 169 [.d xa, .d (.int .i64 d)] [] (.d (.bool (x.may d))) [] := by
 obtain ⟨z_attrs, l_attrs, z_pos, z_neg, z_exs, l_exs, rfl, r_attrs, r_exs⟩ := hx
 unfold Eh.sz at hbig
 unfold Eh.may
 by_cases hd0 : 0 ≤ d
 rotate_left
 ·rw [show decide (0 ≤ d) = false from decide_eq_false hd0]
  refine k'2 (X := cx B) (fn := Tryz.f169) Tryz.func169 rfl rfl rfl rfl rfl 0 [] rfl rfl ?_
  refine Y ?_
  rw [show decide (d ≥ 0) = false from decide_eq_false hd0]
  exact Z
 have c_u := k'1l B 205 tbQ (tbQ_calls B) x.u d (by omega) (by omega) hd2
 have c_opts := MayOpt3_calls B x.sumH x.sum x.minH x.min x.maxH x.max
 have c_pos := maySide_calls B z_pos x.posH x.pos (d - 1) (by omega) (by omega) (by omega)
 have c_neg := maySide_calls B z_neg x.negH x.neg (d - 1) (by omega) (by omega) (by omega)
 have c_exs := All_Em_R B z_exs d (by omega) hd0 hd2 r_exs
 have c_attrs := k'1u B (a := x.attrs) z_attrs (d - 1) (by omega) (by omega) (by omega) r_attrs
 refine k'2 (X := cx B) (fn := Tryz.f169) Tryz.func169 rfl rfl rfl rfl rfl 0 [] rfl rfl ?_
 refine Y ?_
 rw [show decide (d ≥ 0) = decide (0 ≤ d) from rfl]
 cases e0 : (decide (0 ≤ d))
 ·exact Z
 refine Y ?_
 (first | refine l_stepG (.buildSlice (es := [.agg [.bool x.sumH, .int .u64 x.sum], .agg [.bool x.minH, .int .u64 x.min], .agg [.bool x.maxH, .int .u64 x.max]]) rfl rfl rfl rfl rfl rfl (by intro x hx; simp at hx; rcases hx with rfl | rfl | rfl <;> rfl) (by simp) (by decide) (by decide)) rfl rfl rfl rfl ?_ | refine k'6 (.buildSlice (es := [.agg [.bool x.sumH, .int .u64 x.sum], .agg [.bool x.minH, .int .u64 x.min], .agg [.bool x.maxH, .int .u64 x.max]]) rfl rfl rfl rfl rfl rfl (by intro x hx; simp at hx; rcases hx with rfl | rfl | rfl <;> rfl) (by simp) (by decide) (by decide)) rfl rfl ?_)
 refine Y ?_
 refine k'2p [] (c_opts) rfl rfl rfl rfl rfl ?_
 cases e1 : (k'1b x.sumH x.sum && k'1b x.minH x.min && k'1b x.maxH x.max)
 ·exact Z
 refine Y ?_
 rw [k'x 1 (by omega) (by omega) (by omega) hd2]
 refine k'2p [] (c_pos) rfl rfl rfl rfl rfl ?_
 cases e2 : (maySd x.posH x.pos (d - 1))
 ·exact Z
 refine Y ?_
 rw [k'x 1 (by omega) (by omega) (by omega) hd2]
 refine k'2p [] (c_neg) rfl rfl rfl rfl rfl ?_
 cases e3 : (maySd x.negH x.neg (d - 1))
 ·exact Z
 refine Y ?_
 refine k'2p [] (c_exs) rfl rfl rfl rfl rfl ?_
 cases e4 : (x.exs.all fun k => k.may (d - 1))
 ·exact Z
 refine Y ?_
 rw [k'x 1 (by omega) (by omega) (by omega) hd2]
 refine k'2p [] (c_attrs) rfl rfl rfl rfl rfl ?_
 cases e5 : (x.attrs.all fun k => k.may (d - 1))
 ·exact Z
 refine Y ?_
 refine k'c [] (c_u) rfl rfl rfl rfl rfl ?_
 exact Z
theorem All_Eh_calls : AllP B 168 EhSh := All_of B (All1_mk B Tryz.func262) (k'3d B Tryz.func323) (Cont_mk B Tryz.func261) (Allc_mk B Tryz.func168)
theorem All_Eh_R : AllRP B 168 169 Eh.R Eh.sz Eh.may := All_R B (All_Eh_calls B) Eh.Rs_sh (fun x => by unfold Eh.sz; omega) (Eh_May_calls B)
theorem Eh_Marshal_calls (x : Eh) (xa : D) (d : Int) (hbig : x.sz < big) (hwf : x.wf) (hx : x.R xa) (hd1 : -9223372036854775808 ≤ d) (hd2 : d < 9223372036854775808) : k'1 (cx B) 129 [.d xa, .d (.int .i64 d)] [] (if x.may d then .tup [sT x.mar, .d .nili] else .tup [sT [], .d (Er.code 8).d]) [] := by
 have hm := Eh_May_calls B x xa d hbig hx hd1 hd2
 have hlen := Eh.mar_len x
 have hlen : x.mar.length < big := by omega
 obtain ⟨z_attrs, l_attrs, z_pos, z_neg, z_exs, l_exs, rfl, r_attrs, r_exs⟩ := hx
 unfold Eh.sz at hbig
 cases hc : x.may d
 ·rw [hc] at hm
  refine k'2 (X := cx B) (fn := Tryz.f129) Tryz.func129 rfl rfl rfl rfl rfl 0 [] rfl rfl ?_
  refine Y ?_
  refine k'3 [] (hm) rfl rfl rfl ?_
  exact Z
 rw [hc] at hm
 have hc' := hc
 unfold Eh.may at hc'
 simp only [Bool.and_eq_true, decide_eq_true_eq] at hc'
 obtain ⟨⟨⟨⟨⟨⟨hd, ⟨⟨m_sum, m_min⟩, m_max⟩⟩, m_pos⟩, m_neg⟩, m_exs⟩, m_attrs⟩, hu⟩ := hc'
 obtain ⟨w_attrs, w_start, w_time, w_count, w_sum, w_min, w_max, w_scale, w_zero, w_pos, w_neg, w_exs, w_flags, w_thr⟩ := hwf
 unfold Eh.mar Eh.hb at hlen ⊢
 obtain ⟨a0, ha0, c0⟩ := k'3c B 1 (by omega) (by omega) z_attrs d (by omega) w_attrs m_attrs hd hd2 r_attrs (.nw 102 2) [] k'36 (by simp only [List.length_append, List.length_nil] at hlen ⊢; omega)
 rw [List.nil_append] at c0
 obtain ⟨a1, ha1, c1⟩ := k'1i B 2 x.start (by omega) (by omega) (a0) (psV 1 (Kv.mars x.attrs)) ha0 (by simp only [List.length_append, List.length_nil] at hlen ⊢; omega)
 obtain ⟨a2, ha2, c2⟩ := k'1i B 3 x.time (by omega) (by omega) (a1) (psV 1 (Kv.mars x.attrs) ++ fxV 2 x.start) ha1 (by simp only [List.length_append, List.length_nil] at hlen ⊢; omega)
 obtain ⟨a3, ha3, c3⟩ := k'1i B 4 x.count (by omega) (by omega) (a2) (psV 1 (Kv.mars x.attrs) ++ fxV 2 x.start ++ fxV 3 x.time) ha2 (by simp only [List.length_append, List.length_nil] at hlen ⊢; omega)
 obtain ⟨a4, ha4, c4⟩ := wr_opt B x.sumH 5 x.sum (by omega) (by omega) (a3) (psV 1 (Kv.mars x.attrs) ++ fxV 2 x.start ++ fxV 3 x.time ++ fxV 4 x.count) ha3 (by simp only [List.length_append, List.length_nil] at hlen ⊢; omega)
 obtain ⟨a5, ha5, c5⟩ := wr_var B 6 (k'26 x.scale) (by omega) (by omega) (zig32_lt _ w_scale.1 w_scale.2) (a4) (psV 1 (Kv.mars x.attrs) ++ fxV 2 x.start ++ fxV 3 x.time ++ fxV 4 x.count ++ opV 5 x.sumH x.sum) ha4 (by simp only [List.length_append, List.length_nil] at hlen ⊢; omega)
 obtain ⟨a6, ha6, c6⟩ := k'1i B 7 x.zero (by omega) (by omega) (a5) (psV 1 (Kv.mars x.attrs) ++ fxV 2 x.start ++ fxV 3 x.time ++ fxV 4 x.count ++ opV 5 x.sumH x.sum ++ vrV 6 (k'26 x.scale)) ha5 (by simp only [List.length_append, List.length_nil] at hlen ⊢; omega)
 obtain ⟨a7, ha7, c7⟩ := wr_side B z_pos x.posH x.pos 8 (d - 1) (by omega) (by omega) (by omega) w_pos m_pos (by omega) (by omega) (a6) (psV 1 (Kv.mars x.attrs) ++ fxV 2 x.start ++ fxV 3 x.time ++ fxV 4 x.count ++ opV 5 x.sumH x.sum ++ vrV 6 (k'26 x.scale) ++ fxV 7 x.zero) ha6 (by simp only [List.length_append, List.length_nil] at hlen ⊢; omega)
 obtain ⟨a8, ha8, c8⟩ := wr_side B z_neg x.negH x.neg 9 (d - 1) (by omega) (by omega) (by omega) w_neg m_neg (by omega) (by omega) (a7) (psV 1 (Kv.mars x.attrs) ++ fxV 2 x.start ++ fxV 3 x.time ++ fxV 4 x.count ++ opV 5 x.sumH x.sum ++ vrV 6 (k'26 x.scale) ++ fxV 7 x.zero ++ sdV 8 x.posH x.pos) ha7 (by simp only [List.length_append, List.length_nil] at hlen ⊢; omega)
 obtain ⟨a9, ha9, c9⟩ := wr_var B 10 x.flags (by omega) (by omega) (by omega) (a8) (psV 1 (Kv.mars x.attrs) ++ fxV 2 x.start ++ fxV 3 x.time ++ fxV 4 x.count ++ opV 5 x.sumH x.sum ++ vrV 6 (k'26 x.scale) ++ fxV 7 x.zero ++ sdV 8 x.posH x.pos ++ sdV 9 x.negH x.neg) ha8 (by simp only [List.length_append, List.length_nil] at hlen ⊢; omega)
 obtain ⟨a10, ha10, c10⟩ := Parts_Em_R B 11 (by omega) (by omega) z_exs d (by omega) w_exs m_exs hd hd2 r_exs (a9) (psV 1 (Kv.mars x.attrs) ++ fxV 2 x.start ++ fxV 3 x.time ++ fxV 4 x.count ++ opV 5 x.sumH x.sum ++ vrV 6 (k'26 x.scale) ++ fxV 7 x.zero ++ sdV 8 x.posH x.pos ++ sdV 9 x.negH x.neg ++ vrV 10 x.flags) ha9 (by simp only [List.length_append, List.length_nil] at hlen ⊢; omega)
 obtain ⟨a11, ha11, c11⟩ := wr_opt B x.minH 12 x.min (by omega) (by omega) (a10) (psV 1 (Kv.mars x.attrs) ++ fxV 2 x.start ++ fxV 3 x.time ++ fxV 4 x.count ++ opV 5 x.sumH x.sum ++ vrV 6 (k'26 x.scale) ++ fxV 7 x.zero ++ sdV 8 x.posH x.pos ++ sdV 9 x.negH x.neg ++ vrV 10 x.flags ++ psV 11 (x.exs.map Em.mar)) ha10 (by simp only [List.length_append, List.length_nil] at hlen ⊢; omega)
 obtain ⟨a12, ha12, c12⟩ := wr_opt B x.maxH 13 x.max (by omega) (by omega) (a11) (psV 1 (Kv.mars x.attrs) ++ fxV 2 x.start ++ fxV 3 x.time ++ fxV 4 x.count ++ opV 5 x.sumH x.sum ++ vrV 6 (k'26 x.scale) ++ fxV 7 x.zero ++ sdV 8 x.posH x.pos ++ sdV 9 x.negH x.neg ++ vrV 10 x.flags ++ psV 11 (x.exs.map Em.mar) ++ opV 12 x.minH x.min) ha11 (by simp only [List.length_append, List.length_nil] at hlen ⊢; omega)
 obtain ⟨a13, ha13, c13⟩ := k'1i B 14 x.thr (by omega) (by omega) (a12) (psV 1 (Kv.mars x.attrs) ++ fxV 2 x.start ++ fxV 3 x.time ++ fxV 4 x.count ++ opV 5 x.sumH x.sum ++ vrV 6 (k'26 x.scale) ++ fxV 7 x.zero ++ sdV 8 x.posH x.pos ++ sdV 9 x.negH x.neg ++ vrV 10 x.flags ++ psV 11 (x.exs.map Em.mar) ++ opV 12 x.minH x.min ++ opV 13 x.maxH x.max) ha12 (by simp only [List.length_append, List.length_nil] at hlen ⊢; omega)
 obtain ⟨cu, cs⟩ := k'2z B (s := x.u) ha13 (l := psV 1 (Kv.mars x.attrs) ++ fxV 2 x.start ++ fxV 3 x.time ++ fxV 4 x.count ++ opV 5 x.sumH x.sum ++ vrV 6 (k'26 x.scale) ++ fxV 7 x.zero ++ sdV 8 x.posH x.pos ++ sdV 9 x.negH x.neg ++ vrV 10 x.flags ++ psV 11 (x.exs.map Em.mar) ++ opV 12 x.minH x.min ++ opV 13 x.maxH x.max ++ fxV 14 x.thr) (by simp only [List.length_append] at hlen ⊢; omega)
 generalize psV 1 (Kv.mars x.attrs) ++ fxV 2 x.start ++ fxV 3 x.time ++ fxV 4 x.count ++ opV 5 x.sumH x.sum ++ vrV 6 (k'26 x.scale) ++ fxV 7 x.zero ++ sdV 8 x.posH x.pos ++ sdV 9 x.negH x.neg ++ vrV 10 x.flags ++ psV 11 (x.exs.map Em.mar) ++ opV 12 x.minH x.min ++ opV 13 x.maxH x.max ++ fxV 14 x.thr = o13 at c13 cu cs ⊢
 generalize psV 1 (Kv.mars x.attrs) ++ fxV 2 x.start ++ fxV 3 x.time ++ fxV 4 x.count ++ opV 5 x.sumH x.sum ++ vrV 6 (k'26 x.scale) ++ fxV 7 x.zero ++ sdV 8 x.posH x.pos ++ sdV 9 x.negH x.neg ++ vrV 10 x.flags ++ psV 11 (x.exs.map Em.mar) ++ opV 12 x.minH x.min ++ opV 13 x.maxH x.max = o12 at c12 c13
 generalize psV 1 (Kv.mars x.attrs) ++ fxV 2 x.start ++ fxV 3 x.time ++ fxV 4 x.count ++ opV 5 x.sumH x.sum ++ vrV 6 (k'26 x.scale) ++ fxV 7 x.zero ++ sdV 8 x.posH x.pos ++ sdV 9 x.negH x.neg ++ vrV 10 x.flags ++ psV 11 (x.exs.map Em.mar) ++ opV 12 x.minH x.min = o11 at c11 c12
 generalize psV 1 (Kv.mars x.attrs) ++ fxV 2 x.start ++ fxV 3 x.time ++ fxV 4 x.count ++ opV 5 x.sumH x.sum ++ vrV 6 (k'26 x.scale) ++ fxV 7 x.zero ++ sdV 8 x.posH x.pos ++ sdV 9 x.negH x.neg ++ vrV 10 x.flags ++ psV 11 (x.exs.map Em.mar) = o10 at c10 c11
 generalize psV 1 (Kv.mars x.attrs) ++ fxV 2 x.start ++ fxV 3 x.time ++ fxV 4 x.count ++ opV 5 x.sumH x.sum ++ vrV 6 (k'26 x.scale) ++ fxV 7 x.zero ++ sdV 8 x.posH x.pos ++ sdV 9 x.negH x.neg ++ vrV 10 x.flags = o9 at c9 c10
 generalize psV 1 (Kv.mars x.attrs) ++ fxV 2 x.start ++ fxV 3 x.time ++ fxV 4 x.count ++ opV 5 x.sumH x.sum ++ vrV 6 (k'26 x.scale) ++ fxV 7 x.zero ++ sdV 8 x.posH x.pos ++ sdV 9 x.negH x.neg = o8 at c8 c9
 generalize psV 1 (Kv.mars x.attrs) ++ fxV 2 x.start ++ fxV 3 x.time ++ fxV 4 x.count ++ opV 5 x.sumH x.sum ++ vrV 6 (k'26 x.scale) ++ fxV 7 x.zero ++ sdV 8 x.posH x.pos = o7 at c7 c8
 generalize psV 1 (Kv.mars x.attrs) ++ fxV 2 x.start ++ fxV 3 x.time ++ fxV 4 x.count ++ opV 5 x.sumH x.sum ++ vrV 6 (k'26 x.scale) ++ fxV 7 x.zero = o6 at c6 c7
 generalize psV 1 (Kv.mars x.attrs) ++ fxV 2 x.start ++ fxV 3 x.time ++ fxV 4 x.count ++ opV 5 x.sumH x.sum ++ vrV 6 (k'26 x.scale) = o5 at c5 c6
 generalize psV 1 (Kv.mars x.attrs) ++ fxV 2 x.start ++ fxV 3 x.time ++ fxV 4 x.count ++ opV 5 x.sumH x.sum = o4 at c4 c5
 generalize psV 1 (Kv.mars x.attrs) ++ fxV 2 x.start ++ fxV 3 x.time ++ fxV 4 x.count = o3 at c3 c4
 generalize psV 1 (Kv.mars x.attrs) ++ fxV 2 x.start ++ fxV 3 x.time = o2 at c2 c3
 generalize psV 1 (Kv.mars x.attrs) ++ fxV 2 x.start = o1 at c1 c2
 generalize psV 1 (Kv.mars x.attrs) = o0 at c0 c1
 refine k'2 (X := cx B) (fn := Tryz.f129) Tryz.func129 rfl rfl rfl rfl rfl 0 [] rfl rfl ?_
 refine Y ?_
 refine l_cw [] (hm) rfl rfl rfl ?_
 refine k'5 [1] (c0) rfl rfl rfl rfl rfl rfl rfl (by decide) (by simp [k'0 k'36]) (by simp [k'0 ha0]) rfl rfl rfl ?_
 refine Y ?_
 refine k'5 [1] (c1) rfl rfl rfl rfl rfl rfl rfl (by decide) (by simp [k'0 ha0]) (by simp [k'0 ha1]) rfl rfl rfl ?_
 refine Y ?_
 refine k'5 [1] (c2) rfl rfl rfl rfl rfl rfl rfl (by decide) (by simp [k'0 ha1]) (by simp [k'0 ha2]) rfl rfl rfl ?_
 refine Y ?_
 refine k'5 [1] (c3) rfl rfl rfl rfl rfl rfl rfl (by decide) (by simp [k'0 ha2]) (by simp [k'0 ha3]) rfl rfl rfl ?_
 refine Y ?_
 refine k'5 [1] (c4) rfl rfl rfl rfl rfl rfl rfl (by decide) (by simp [k'0 ha3]) (by simp [k'0 ha4]) rfl rfl rfl ?_
 refine Y ?_
 refine l_cw [] (Zig32_calls B x.scale w_scale.1 w_scale.2) rfl rfl rfl ?_
 refine k'5 [1] (c5) rfl rfl rfl rfl rfl rfl rfl (by decide) (by simp [k'0 ha4]) (by simp [k'0 ha5]) rfl rfl rfl ?_
 refine Y ?_
 refine k'5 [1] (c6) rfl rfl rfl rfl rfl rfl rfl (by decide) (by simp [k'0 ha5]) (by simp [k'0 ha6]) rfl rfl rfl ?_
 refine Y ?_
 rw [k'x 1 (by omega) (by omega) (by omega) hd2]
 refine k'5 [1] (c7) rfl rfl rfl rfl rfl rfl rfl (by decide) (by simp [k'0 ha6]) (by simp [k'0 ha7]) rfl rfl rfl ?_
 refine Y ?_
 rw [k'x 1 (by omega) (by omega) (by omega) hd2]
 refine k'5 [1] (c8) rfl rfl rfl rfl rfl rfl rfl (by decide) (by simp [k'0 ha7]) (by simp [k'0 ha8]) rfl rfl rfl ?_
 refine Y ?_
 rw [show IntKind.u64.wrap (x.flags : Int) = (x.flags : Int) by rw [IntKind.wrap_u64]; omega]
 refine k'5 [1] (c9) rfl rfl rfl rfl rfl rfl rfl (by decide) (by simp [k'0 ha8]) (by simp [k'0 ha9]) rfl rfl rfl ?_
 refine Y ?_
 refine k'5 [1] (c10) rfl rfl rfl rfl rfl rfl rfl (by decide) (by simp [k'0 ha9]) (by simp [k'0 ha10]) rfl rfl rfl ?_
 refine Y ?_
 refine k'5 [1] (c11) rfl rfl rfl rfl rfl rfl rfl (by decide) (by simp [k'0 ha10]) (by simp [k'0 ha11]) rfl rfl rfl ?_
 refine Y ?_
 refine k'5 [1] (c12) rfl rfl rfl rfl rfl rfl rfl (by decide) (by simp [k'0 ha11]) (by simp [k'0 ha12]) rfl rfl rfl ?_
 refine Y ?_
 refine k'5 [1] (c13) rfl rfl rfl rfl rfl rfl rfl (by decide) (by simp [k'0 ha12]) (by simp [k'0 ha13]) rfl rfl rfl ?_
 refine Y ?_
 refine k'5 [1] (cu) rfl rfl rfl rfl rfl rfl rfl (by decide) (by simp [k'0 ha13]) (by simp [k'0 (.inl rfl)]) rfl rfl rfl ?_
 refine Y ?_
 refine k'5 [1] (cs) rfl rfl rfl rfl rfl rfl rfl (by decide) (by simp [k'0 (.inl rfl)]) rfl rfl rfl rfl ?_
 exact Z
theorem Parts_Eh_wr : PartsP B 128 EhSh := k'4x B Tryz.func128
theorem Parts_Eh_R : PartsRP B 128 129 Eh.R Eh.sz Eh.wf Eh.may Eh.mar := Parts_R B (Parts_Eh_wr B) Eh.Rs_sh (Eh_Marshal_calls B)
theorem Eh_fits (l : List Eh) : ∀ a ∈ l.map Eh.d, a.fits 24 = true := by
 intro a ha
 obtain ⟨c, -, rfl⟩ := List.mem_map.1 ha
 rfl
theorem part_Eh_calls : partP B 204 Eh.d := k'3f B Tryz.func204
theorem List_Eh_calls : ListP B 110 Eh.d := List_S B (fun x => Eh_fits [x]) (part_Eh_calls B) (List_mk B Tryz.func110)
theorem List_Eh_tells : ListT B 110 Eh.d := k'25 B (List_Eh_calls B)
theorem okEh_rd (s : List UInt8) (d : Int) : okEh s d = (match k'j s d, k'7 (fun s => okK s (d - 1)) 1 (knB tbQ s d), partO (fun s => okB s (d - 1)) noBk 8 (knB tbQ s d), partO (fun s => okB s (d - 1)) noBk 9 (knB tbQ s d), k'7 (fun s => okEm s (d - 1)) 11 (knB tbQ s d) with
 | none, some attrs, some pos, some neg, some exs => some ⟨attrs, (k'8 (knB tbQ s d) 2).n, (k'8 (knB tbQ s d) 3).n, (k'8 (knB tbQ s d) 4).n, (hasL (knB tbQ s d) 5), (k'8 (knB tbQ s d) 5).n, (hasL (knB tbQ s d) 12), (k'8 (knB tbQ s d) 12).n, (hasL (knB tbQ s d) 13), (k'8 (knB tbQ s d) 13).n, zag32 (k'8 (knB tbQ s d) 6).n, (k'8 (knB tbQ s d) 7).n, pos.1, pos.2, neg.1, neg.2, exs, (k'8 (knB tbQ s d) 10).n % 4294967296, (k'8 (knB tbQ s d) 14).n, unB tbQ s d⟩
 | _, _, _, _, _ => none) := by
 unfold okEh
 rw [okG_rd]
 cases k'j s d with
 | some e => rfl
 | none =>
  unfold tellEh
  simp only
  cases k'7 (fun s => okK s (d - 1)) 1 (knB tbQ s d) with
  | none => rfl
  | some attrs =>
   cases partO (fun s => okB s (d - 1)) noBk 8 (knB tbQ s d) with
   | none => rfl
   | some pos =>
    cases partO (fun s => okB s (d - 1)) noBk 9 (knB tbQ s d) with
    | none => rfl
    | some neg =>
     cases k'7 (fun s => okEm s (d - 1)) 11 (knB tbQ s d) with
     | none => rfl
     | some exs =>
      rfl
theorem Eh_read (hB : BOk B) (s : List UInt8) (d : Int) (hl : s.length < big) (hd1 : -9223372036854775808 ≤ d) (hd2 : d < 9223372036854775808) :
  RdZ B 111 Eh.d noEh (okEh s d) s d ∧ (∀ e0, k'j s d = some e0 → k'1 (cx B) 111 [sT s, .d (.int .i64 d)] [] (.tup [.d noEh.d, .d e0.d]) []) := by
 have h1 := k'1d B hB 205 tbQ (tbQ_calls B) s d hl hd1 hd2
 have hk : LOk (knB tbQ s d) := k'p tbQ s d hl
 have hm := k'2y hk
 obtain ⟨vs_attrs, e1, c_attrs, t1⟩ := k'1c B hB (fun s => okK s (d - 1)) Kv.sh noKV 38 [] (k'j s d) (unB tbQ s d) d s.length (knB tbQ s d) 1 hk (fun h => by have := k'22 h; omega) hd2 (fun x hx hn => k'1e B hB x.s (d - 1) (lok_s hk hx) (by have := k'2k hx; omega) (by omega))
 obtain ⟨vs_exs, e2, c_exs, t2⟩ := k'49 B hB (fun s => okEm s (d - 1)) id noEm 198 [] e1 (unB tbQ s d) d s.length (knB tbQ s d) 11 hk (fun h => by have := k'22 h; omega) hd2 (fun x hx hn => (Em_read B hB x.s (d - 1) (lok_s hk hx) (by have := k'2k hx; omega) (by omega)).1.at)
 obtain ⟨vs_pos, e3, c_pos, t3⟩ := Part_Bk_tells B hB (fun s => okB s (d - 1)) id noBk rfl 208 [] e2 (unB tbQ s d) d s.length (knB tbQ s d) 8 hk (fun h => by have := k'22 h; omega) hd2 (fun h => UB_rd B hB _ (d - 1) (bytes_big hk 8) (by have := k'22 h; omega) (by omega))
 obtain ⟨vs_neg, e4, c_neg, t4⟩ := Part_Bk_tells B hB (fun s => okB s (d - 1)) id noBk rfl 208 [] e3 (unB tbQ s d) d s.length (knB tbQ s d) 9 hk (fun h => by have := k'22 h; omega) hd2 (fun h => UB_rd B hB _ (d - 1) (bytes_big hk 9) (by have := k'22 h; omega) (by omega))
 have hein : ∀ x, e4 = some x → EIn s.length x := t4.ein (t3.ein (t2.ein (t1.ein (fun x hx => k'15 hx))))
 have main : k'1 (cx B) 111 [sT s, .d (.int .i64 d)] [] (.tup [.d (orD e4 (.agg [slD (vs_attrs.map KVs.d), .int .u64 (k'8 (knB tbQ s d) 2).n, .int .u64 (k'8 (knB tbQ s d) 3).n, .int .u64 (k'8 (knB tbQ s d) 4).n, .bool (hasL (knB tbQ s d) 5), .int .u64 (k'8 (knB tbQ s d) 5).n, .bool (hasL (knB tbQ s d) 12), .int .u64 (k'8 (knB tbQ s d) 12).n, .bool (hasL (knB tbQ s d) 13), .int .u64 (k'8 (knB tbQ s d) 13).n, .int .i32 (zag32 (k'8 (knB tbQ s d) 6).n), .int .u64 (k'8 (knB tbQ s d) 7).n, .bool vs_pos.1, .int .i32 vs_pos.2.off, slD (vs_pos.2.cs.map uD), .str vs_pos.2.u, .bool vs_neg.1, .int .i32 vs_neg.2.off, slD (vs_neg.2.cs.map uD), .str vs_neg.2.u, slD (vs_exs.map Em.d), .int .u32 ((k'8 (knB tbQ s d) 10).n % 4294967296 : Nat), .int .u64 (k'8 (knB tbQ s d) 14).n, .str (unB tbQ s d)]) noEh.d), .d (eD e4)]) [] := by
  clear hein t1 t2 t3 t4
  refine k'2 (X := cx B) (fn := Tryz.f111) Tryz.func111 rfl rfl rfl rfl rfl 0 [] rfl rfl ?_
  refine Y ?_
  refine l_cw [] (h1) rfl rfl rfl ?_
  refine x_tail (i0 := 31) (z := 32) (t0 := 7) rfl (by decide) rfl rfl rfl rfl rfl rfl rfl rfl rfl rfl ?_
  refine Y ?_
  refine x_cw [1] (c_attrs) rfl rfl rfl ?_
  refine x_cw [1] (k'9 B e1 (unB tbQ s d) d s.length (knB tbQ s d) 2 hm) rfl rfl rfl ?_
  refine x_cw [1] (k'9 B e1 (unB tbQ s d) d s.length (knB tbQ s d) 3 hm) rfl rfl rfl ?_
  refine x_cw [1] (k'9 B e1 (unB tbQ s d) d s.length (knB tbQ s d) 4 hm) rfl rfl rfl ?_
  refine x_cw [1] (k'4e B e1 (unB tbQ s d) d s.length (knB tbQ s d) 5 hm) rfl rfl rfl ?_
  refine x_cw [1] (k'4e B e1 (unB tbQ s d) d s.length (knB tbQ s d) 12 hm) rfl rfl rfl ?_
  refine x_cw [1] (k'4e B e1 (unB tbQ s d) d s.length (knB tbQ s d) 13 hm) rfl rfl rfl ?_
  refine x_cw [1] (k'9 B e1 (unB tbQ s d) d s.length (knB tbQ s d) 6 hm) rfl rfl rfl ?_
  refine x_cw [] (Zag32_calls B (k'8 (knB tbQ s d) 6).n (lastF_n hk 6)) rfl rfl rfl ?_
  refine x_cw [1] (k'9 B e1 (unB tbQ s d) d s.length (knB tbQ s d) 7 hm) rfl rfl rfl ?_
  refine x_cw [1] (c_exs) rfl rfl rfl ?_
  refine x_cw [1] (k'9 B e2 (unB tbQ s d) d s.length (knB tbQ s d) 10 hm) rfl rfl rfl ?_
  rw [u32w]
  refine x_cw [1] (k'9 B e2 (unB tbQ s d) d s.length (knB tbQ s d) 14 hm) rfl rfl rfl ?_
  refine l_cw [1] (c_pos) rfl rfl rfl ?_
  refine l_cw [1] (c_neg) rfl rfl rfl ?_
  cases e4 with
  | none =>
   exact Z
  | some er =>
   cases er <;> (
   exact Z)
 constructor
 ·rw [okEh_rd]
  cases e4 with
  | none =>
   obtain ⟨k3, a_neg, g_neg, v_neg⟩ := t4.ok
   subst k3
   obtain ⟨k2, a_pos, g_pos, v_pos⟩ := t3.ok
   subst k2
   obtain ⟨k1, a_exs, g_exs, v_exs⟩ := t2.ok
   subst k1
   obtain ⟨k0, a_attrs, g_attrs, v_attrs⟩ := t1.ok
   rw [k0, g_attrs, g_pos, g_neg, g_exs]
   subst v_attrs
   simp only [id_eq] at v_pos
   subst v_pos
   simp only [id_eq] at v_neg
   subst v_neg
   rw [List.map_id] at v_exs
   subst v_exs
   rw [ks_map a_attrs] at main
   exact main
  | some er =>
   have hno : (match k'j s d, k'7 (fun s => okK s (d - 1)) 1 (knB tbQ s d), partO (fun s => okB s (d - 1)) noBk 8 (knB tbQ s d), partO (fun s => okB s (d - 1)) noBk 9 (knB tbQ s d), k'7 (fun s => okEm s (d - 1)) 11 (knB tbQ s d) with
    | none, some attrs, some pos, some neg, some exs => some (⟨attrs, (k'8 (knB tbQ s d) 2).n, (k'8 (knB tbQ s d) 3).n, (k'8 (knB tbQ s d) 4).n, (hasL (knB tbQ s d) 5), (k'8 (knB tbQ s d) 5).n, (hasL (knB tbQ s d) 12), (k'8 (knB tbQ s d) 12).n, (hasL (knB tbQ s d) 13), (k'8 (knB tbQ s d) 13).n, zag32 (k'8 (knB tbQ s d) 6).n, (k'8 (knB tbQ s d) 7).n, pos.1, pos.2, neg.1, neg.2, exs, (k'8 (knB tbQ s d) 10).n % 4294967296, (k'8 (knB tbQ s d) 14).n, unB tbQ s d⟩ : Eh)
    | _, _, _, _, _ => none) = none := by
    cases hr : k'j s d with
    | some x => rfl
    | none =>
     rw [hr] at t1
     cases hp0 : k'7 (fun s => okK s (d - 1)) 1 (knB tbQ s d) with
     | none => rfl
     | some a0 =>
      rw [hp0] at t1
      obtain ⟨-, q0⟩ := t1.get
      subst q0
      cases hp1 : k'7 (fun s => okEm s (d - 1)) 11 (knB tbQ s d) with
      | none => split <;> simp_all
      | some a1 =>
       rw [hp1] at t2
       obtain ⟨-, q1⟩ := t2.get
       subst q1
       cases hp2 : partO (fun s => okB s (d - 1)) noBk 8 (knB tbQ s d) with
       | none => split <;> simp_all
       | some a2 =>
        rw [hp2] at t3
        obtain ⟨-, q2⟩ := t3.get
        subst q2
        cases hp3 : partO (fun s => okB s (d - 1)) noBk 9 (knB tbQ s d) with
        | none => split <;> simp_all
        | some a3 =>
         rw [hp3] at t4
         have := t4.get.2; simp at this
   rw [hno]
   exact ⟨er, hein er rfl, main⟩
 ·intro e0 he
  rw [he] at t1
  have k1 := t1.keep
  subst k1
  have k2 := t2.keep
  subst k2
  have k3 := t3.keep
  subst k3
  have k4 := t4.keep
  subst k4
  exact main
