/- Hist: alike, may they be, written, read. -/
import Derived.Test.YtnaojdjhjkendaaGreatDoorHP
import Derived.Test.YtnaojdjhjkendaaGreatDoorPAB
set_option linter.unusedSimpArgs false
set_option linter.unusedVariables false
set_option maxRecDepth 100000
namespace Go.Proofs.YtnaojdjhjkendaaGreatDoor
open Go Go.Abs
variable (B : Fr)
section
def Hi.d (x : Hi) : D := .agg [slD (Kv.ds x.attrs), .int .u64 x.start, .int .u64 x.time, .int .u64 x.count, .bool x.sumH, .int .u64 x.sum, .bool x.minH, .int .u64 x.min, .bool x.maxH, .int .u64 x.max, slD (x.counts.map uD), slD (x.bounds.map uD), slD (x.exs.map Em.d), .int .u32 x.flags, .str x.u]
def Hi.R (x : Hi) (a : D) : Prop := ∃ (z_attrs : Bool) (l_attrs : List D) (z_counts : Bool) (z_bounds : Bool) (z_exs : Bool) (l_exs : List D), a = .agg [.sl z_attrs l_attrs, .int .u64 x.start, .int .u64 x.time, .int .u64 x.count, .bool x.sumH, .int .u64 x.sum, .bool x.minH, .int .u64 x.min, .bool x.maxH, .int .u64 x.max, .sl z_counts (x.counts.map uD), .sl z_bounds (x.bounds.map uD), .sl z_exs l_exs, .int .u32 x.flags, .str x.u] ∧ Kv.Rs x.attrs l_attrs ∧ RsOf Em.R x.exs l_exs
def HiSh (x : D) : Prop := ∃ (a0 : Bool) (a1 : List D) (a2 : Nat) (a3 : Nat) (a4 : Nat) (a5 : Bool) (a6 : Nat) (a7 : Bool) (a8 : Nat) (a9 : Bool) (a10 : Nat) (a11 : Bool) (a12 : List D) (a13 : Bool) (a14 : List D) (a15 : Bool) (a16 : List D) (a17 : Nat) (a18 : List UInt8), x = .agg [.sl a0 a1, .int .u64 a2, .int .u64 a3, .int .u64 a4, .bool a5, .int .u64 a6, .bool a7, .int .u64 a8, .bool a9, .int .u64 a10, .sl a11 a12, .sl a13 a14, .sl a15 a16, .int .u32 a17, .str a18]
theorem Hi.R_sh {x : Hi} {a : D} (h : x.R a) : HiSh a := by
 obtain ⟨z_attrs, l_attrs, z_counts, z_bounds, z_exs, l_exs, h, -⟩ := h
 exact ⟨_, _, _, _, _, _, _, _, _, _, _, _, _, _, _, _, _, _, _, h⟩
theorem Hi.Rs_sh {l : List Hi} {xs : List D} (h : RsOf Hi.R l xs) : ∀ x ∈ xs, HiSh x := fun x hx => by
 obtain ⟨v, -, r⟩ := h.mem hx
 exact Hi.R_sh r
theorem Hi_May_calls (x : Hi) (xa : D) (d : Int) (hbig : x.sz < big) (hx : x.R xa) (hd1 : -9223372036854775808 ≤ d) (hd2 : d < 9223372036854775808) : k'0 (cx B) 140 [.d xa, .d (.int .i64 d)] [] (.d (.bool (x.may d))) [] := by
 obtain ⟨z_attrs, l_attrs, z_counts, z_bounds, z_exs, l_exs, rfl, r_attrs, r_exs⟩ := hx
 unfold Hi.sz at hbig
 unfold Hi.may
 by_cases hd0 : 0 ≤ d
 rotate_left
 ·rw [show decide (0 ≤ d) = false from decide_eq_false hd0]
  refine l_bw Tryz.func140 0 [] ?_
  rw [show decide (d ≥ 0) = false from decide_eq_false hd0]
  exact Z
 have c_u := k'1e B 172 tbH (tbH_calls B) x.u d (by omega) (by omega) hd2
 have c_opts := MayOpt3_calls B x.sumH x.sum x.minH x.min x.maxH x.max
 have c_exs := All_Em_R B z_exs d (by omega) hd0 hd2 r_exs
 have c_attrs := k'1p B (a := x.attrs) z_attrs (d - 1) (by omega) (by omega) (by omega) r_attrs
 refine l_bw Tryz.func140 0 [] ?_
 rw [show decide (d ≥ 0) = decide (0 ≤ d) from rfl]
 cases e0 : (decide (0 ≤ d))
 ·exact Z
 refine Y ?_
 (first | refine k'19 (.buildSlice (es := [.agg [.bool x.sumH, .int .u64 x.sum], .agg [.bool x.minH, .int .u64 x.min], .agg [.bool x.maxH, .int .u64 x.max]]) rfl rfl rfl rfl rfl rfl (by intro x hx; simp at hx; rcases hx with rfl | rfl | rfl <;> rfl) (by simp) (by decide) (by decide)) rfl rfl rfl rfl ?_ | refine k'1 (.buildSlice (es := [.agg [.bool x.sumH, .int .u64 x.sum], .agg [.bool x.minH, .int .u64 x.min], .agg [.bool x.maxH, .int .u64 x.max]]) rfl rfl rfl rfl rfl rfl (by intro x hx; simp at hx; rcases hx with rfl | rfl | rfl <;> rfl) (by simp) (by decide) (by decide)) rfl rfl ?_)
 refine Y ?_
 refine k'2d [] (c_opts) rfl rfl rfl rfl rfl ?_
 cases e1 : (k'h x.sumH x.sum && k'h x.minH x.min && k'h x.maxH x.max)
 ·exact Z
 refine Y ?_
 refine k'2d [] (c_exs) rfl rfl rfl rfl rfl ?_
 cases e2 : (x.exs.all fun k => k.may (d - 1))
 ·exact Z
 refine Y ?_
 rw [k'4 1 (by omega) (by omega) (by omega) hd2]
 refine k'2d [] (c_attrs) rfl rfl rfl rfl rfl ?_
 cases e3 : (x.attrs.all fun k => k.may (d - 1))
 ·exact Z
 refine Y ?_
 refine k'7 [] (c_u) rfl rfl rfl rfl rfl ?_
 exact Z
theorem All_Hi_calls : AllP B 139 HiSh := All_of B (All1_mk B Tryz.func229) (k'39 B Tryz.func293) (Cont_mk B Tryz.func228) (Allc_mk B Tryz.func139)
theorem All_Hi_R : AllRP B 139 140 Hi.R Hi.sz Hi.may := All_R B (All_Hi_calls B) Hi.Rs_sh (fun x => by unfold Hi.sz; omega) (Hi_May_calls B)
theorem Hi_Marshal_calls (x : Hi) (xa : D) (d : Int) (hbig : x.sz < big) (hwf : x.wf) (hx : x.R xa) (hd1 : -9223372036854775808 ≤ d) (hd2 : d < 9223372036854775808) : k'0 (cx B) 127 [.d xa, .d (.int .i64 d)] [] (if x.may d then .tup [sT x.mar, .d .nili] else .tup [sT [], .d (Er.code 8).d]) [] := by
 have hm := Hi_May_calls B x xa d hbig hx hd1 hd2
 have hlen := Hi.mar_len x
 have hlen : x.mar.length < big := by omega
 obtain ⟨z_attrs, l_attrs, z_counts, z_bounds, z_exs, l_exs, rfl, r_attrs, r_exs⟩ := hx
 unfold Hi.sz at hbig
 cases hc : x.may d
 ·rw [hc] at hm
  refine l_bw Tryz.func127 0 [] ?_
  refine k'2 [] (hm) rfl rfl rfl ?_
  exact Z
 rw [hc] at hm
 have hc' := hc
 unfold Hi.may at hc'
 simp only [Bool.and_eq_true, decide_eq_true_eq] at hc'
 obtain ⟨⟨⟨⟨hd, ⟨⟨m_sum, m_min⟩, m_max⟩⟩, m_exs⟩, m_attrs⟩, hu⟩ := hc'
 obtain ⟨w_attrs, w_start, w_time, w_count, w_sum, w_min, w_max, w_counts, w_bounds, w_exs, w_flags⟩ := hwf
 unfold Hi.mar Hi.hb at hlen ⊢
 obtain ⟨a0, ha0, c0⟩ := k'1b B 2 x.start (by omega) (by omega) (.nw 122 2) [] k'31 (by simp only [List.length_append, List.length_nil] at hlen ⊢; omega)
 rw [List.nil_append] at c0
 obtain ⟨a1, ha1, c1⟩ := k'1b B 3 x.time (by omega) (by omega) (a0) (fxV 2 x.start) ha0 (by simp only [List.length_append, List.length_nil] at hlen ⊢; omega)
 obtain ⟨a2, ha2, c2⟩ := k'1b B 4 x.count (by omega) (by omega) (a1) (fxV 2 x.start ++ fxV 3 x.time) ha1 (by simp only [List.length_append, List.length_nil] at hlen ⊢; omega)
 obtain ⟨a3, ha3, c3⟩ := wr_opt B x.sumH 5 x.sum (by omega) (by omega) (a2) (fxV 2 x.start ++ fxV 3 x.time ++ fxV 4 x.count) ha2 (by simp only [List.length_append, List.length_nil] at hlen ⊢; omega)
 obtain ⟨a4, ha4, c4⟩ := wr_fixeds B z_counts 6 x.counts (by omega) (by omega) (by unfold big at hbig; omega) (a3) (fxV 2 x.start ++ fxV 3 x.time ++ fxV 4 x.count ++ opV 5 x.sumH x.sum) ha3 (by simp only [List.length_append, List.length_nil] at hlen ⊢; omega)
 obtain ⟨a5, ha5, c5⟩ := wr_fixeds B z_bounds 7 x.bounds (by omega) (by omega) (by unfold big at hbig; omega) (a4) (fxV 2 x.start ++ fxV 3 x.time ++ fxV 4 x.count ++ opV 5 x.sumH x.sum ++ pwV 6 x.counts) ha4 (by simp only [List.length_append, List.length_nil] at hlen ⊢; omega)
 obtain ⟨a6, ha6, c6⟩ := Parts_Em_R B 8 (by omega) (by omega) z_exs d (by omega) w_exs m_exs hd hd2 r_exs (a5) (fxV 2 x.start ++ fxV 3 x.time ++ fxV 4 x.count ++ opV 5 x.sumH x.sum ++ pwV 6 x.counts ++ pwV 7 x.bounds) ha5 (by simp only [List.length_append, List.length_nil] at hlen ⊢; omega)
 obtain ⟨a7, ha7, c7⟩ := k'38 B 9 (by omega) (by omega) z_attrs d (by omega) w_attrs m_attrs hd hd2 r_attrs (a6) (fxV 2 x.start ++ fxV 3 x.time ++ fxV 4 x.count ++ opV 5 x.sumH x.sum ++ pwV 6 x.counts ++ pwV 7 x.bounds ++ psV 8 (x.exs.map Em.mar)) ha6 (by simp only [List.length_append, List.length_nil] at hlen ⊢; omega)
 obtain ⟨a8, ha8, c8⟩ := wr_var B 10 x.flags (by omega) (by omega) (by omega) (a7) (fxV 2 x.start ++ fxV 3 x.time ++ fxV 4 x.count ++ opV 5 x.sumH x.sum ++ pwV 6 x.counts ++ pwV 7 x.bounds ++ psV 8 (x.exs.map Em.mar) ++ psV 9 (Kv.mars x.attrs)) ha7 (by simp only [List.length_append, List.length_nil] at hlen ⊢; omega)
 obtain ⟨a9, ha9, c9⟩ := wr_opt B x.minH 11 x.min (by omega) (by omega) (a8) (fxV 2 x.start ++ fxV 3 x.time ++ fxV 4 x.count ++ opV 5 x.sumH x.sum ++ pwV 6 x.counts ++ pwV 7 x.bounds ++ psV 8 (x.exs.map Em.mar) ++ psV 9 (Kv.mars x.attrs) ++ vrV 10 x.flags) ha8 (by simp only [List.length_append, List.length_nil] at hlen ⊢; omega)
 obtain ⟨a10, ha10, c10⟩ := wr_opt B x.maxH 12 x.max (by omega) (by omega) (a9) (fxV 2 x.start ++ fxV 3 x.time ++ fxV 4 x.count ++ opV 5 x.sumH x.sum ++ pwV 6 x.counts ++ pwV 7 x.bounds ++ psV 8 (x.exs.map Em.mar) ++ psV 9 (Kv.mars x.attrs) ++ vrV 10 x.flags ++ opV 11 x.minH x.min) ha9 (by simp only [List.length_append, List.length_nil] at hlen ⊢; omega)
 obtain ⟨cu, cs⟩ := k'2x B (s := x.u) ha10 (l := fxV 2 x.start ++ fxV 3 x.time ++ fxV 4 x.count ++ opV 5 x.sumH x.sum ++ pwV 6 x.counts ++ pwV 7 x.bounds ++ psV 8 (x.exs.map Em.mar) ++ psV 9 (Kv.mars x.attrs) ++ vrV 10 x.flags ++ opV 11 x.minH x.min ++ opV 12 x.maxH x.max) (by simp only [List.length_append] at hlen ⊢; omega)
 generalize fxV 2 x.start ++ fxV 3 x.time ++ fxV 4 x.count ++ opV 5 x.sumH x.sum ++ pwV 6 x.counts ++ pwV 7 x.bounds ++ psV 8 (x.exs.map Em.mar) ++ psV 9 (Kv.mars x.attrs) ++ vrV 10 x.flags ++ opV 11 x.minH x.min ++ opV 12 x.maxH x.max = o10 at c10 cu cs ⊢
 generalize fxV 2 x.start ++ fxV 3 x.time ++ fxV 4 x.count ++ opV 5 x.sumH x.sum ++ pwV 6 x.counts ++ pwV 7 x.bounds ++ psV 8 (x.exs.map Em.mar) ++ psV 9 (Kv.mars x.attrs) ++ vrV 10 x.flags ++ opV 11 x.minH x.min = o9 at c9 c10
 generalize fxV 2 x.start ++ fxV 3 x.time ++ fxV 4 x.count ++ opV 5 x.sumH x.sum ++ pwV 6 x.counts ++ pwV 7 x.bounds ++ psV 8 (x.exs.map Em.mar) ++ psV 9 (Kv.mars x.attrs) ++ vrV 10 x.flags = o8 at c8 c9
 generalize fxV 2 x.start ++ fxV 3 x.time ++ fxV 4 x.count ++ opV 5 x.sumH x.sum ++ pwV 6 x.counts ++ pwV 7 x.bounds ++ psV 8 (x.exs.map Em.mar) ++ psV 9 (Kv.mars x.attrs) = o7 at c7 c8
 generalize fxV 2 x.start ++ fxV 3 x.time ++ fxV 4 x.count ++ opV 5 x.sumH x.sum ++ pwV 6 x.counts ++ pwV 7 x.bounds ++ psV 8 (x.exs.map Em.mar) = o6 at c6 c7
 generalize fxV 2 x.start ++ fxV 3 x.time ++ fxV 4 x.count ++ opV 5 x.sumH x.sum ++ pwV 6 x.counts ++ pwV 7 x.bounds = o5 at c5 c6
 generalize fxV 2 x.start ++ fxV 3 x.time ++ fxV 4 x.count ++ opV 5 x.sumH x.sum ++ pwV 6 x.counts = o4 at c4 c5
 generalize fxV 2 x.start ++ fxV 3 x.time ++ fxV 4 x.count ++ opV 5 x.sumH x.sum = o3 at c3 c4
 generalize fxV 2 x.start ++ fxV 3 x.time ++ fxV 4 x.count = o2 at c2 c3
 generalize fxV 2 x.start ++ fxV 3 x.time = o1 at c1 c2
 generalize fxV 2 x.start = o0 at c0 c1
 refine l_bw Tryz.func127 0 [] ?_
 refine l_cw [] (hm) rfl rfl rfl ?_
 refine l_wr [1] (c0) k'31 ha0 ?_
 refine l_wr [1] (c1) ha0 ha1 ?_
 refine l_wr [1] (c2) ha1 ha2 ?_
 refine l_wr [1] (c3) ha2 ha3 ?_
 refine l_wr [1] (c4) ha3 ha4 ?_
 refine l_wr [1] (c5) ha4 ha5 ?_
 refine l_wr [1] (c6) ha5 ha6 ?_
 refine l_wr [1] (c7) ha6 ha7 ?_
 rw [show IntKind.u64.wrap (x.flags : Int) = (x.flags : Int) by rw [IntKind.wrap_u64]; omega]
 refine l_wr [1] (c8) ha7 ha8 ?_
 refine l_wr [1] (c9) ha8 ha9 ?_
 refine l_wr [1] (c10) ha9 ha10 ?_
 refine l_wr [1] (cu) ha10 (.inl rfl) ?_
 refine k'1r [1] (cs) rfl rfl rfl rfl rfl rfl rfl (by decide) (by simp [k'5 (.inl rfl)]) rfl rfl rfl rfl ?_
 exact Z
theorem Parts_Hi_wr : PartsP B 126 HiSh := k'4b B Tryz.func126
theorem Parts_Hi_R : PartsRP B 126 127 Hi.R Hi.sz Hi.wf Hi.may Hi.mar := Parts_R B (Parts_Hi_wr B) Hi.Rs_sh (Hi_Marshal_calls B)
end
section
def Bk.mar (b : Bk) : List UInt8 := marB b.off b.cs b.u
def Bk.wf (b : Bk) : Prop := (-2147483648 ≤ b.off ∧ b.off < 2147483648) ∧ ∀ n ∈ b.cs, n < 2 ^ 64
def Bk.sz (b : Bk) : Nat := 120 + 10 * b.cs.length + b.u.length
def Bk.may (b : Bk) (d : Int) : Bool := mayB b.u d
def Bk.isNo (b : Bk) : Bool := b.off == 0 && b.u == [] && b.cs == []
def Bk.eq (a b : Bk) : Bool := a.off == b.off && a.u == b.u && a.cs == b.cs
theorem Bk.mar_len (b : Bk) : b.mar.length + 20 ≤ b.sz := by
 have := vrV_len 1 (k'2b b.off); have := pkV_len 2 b.cs
 unfold Bk.mar marB Bk.sz
 simp only [List.length_append]
 omega
def sdV (n : Nat) (h : Bool) (b : Bk) : List UInt8 := if h then paV n b.mar else []
def sdF (n : Nat) (h : Bool) (b : Bk) : List Fld := if h then [paR n b.mar] else []
def maySd (h : Bool) (b : Bk) (d : Int) : Bool := if h then b.may d else b.isNo
def sdO (h : Bool) (b : Bk) (d : Int) : Option (Bool × Bk) := if h then (match okB b.mar d with | none => none | some x => some (true, x)) else some (false, noBk)
theorem sdV_len (n : Nat) (h : Bool) (b : Bk) : (sdV n h b).length ≤ b.sz := by
 unfold sdV
 have := b.mar_len
 split
 ·have := k'25 n b.mar; omega
 ·simp
section
variable (n m : Nat) (h : Bool) (b : Bk)
theorem sel_sd : sel m (sdF n h b) = if n = m then sdF n h b else [] := sel_of (by unfold sdF; split <;> simp [paR]) m
theorem all_sd (h1 : 1 ≤ n) (h2 : n ≤ 536870911) (d : Int) (hb : b.sz < big) : all (sdV n h b) d = .ok (sdF n h b) := by
 unfold sdV sdF
 have := b.mar_len
 unfold big at hb
 split
 ·exact all_pa h1 h2 d (by omega)
 ·exact all_nil d
end
theorem part_sd {n : Nat} {h : Bool} {b : Bk} {l : List Fld} (d : Int) (hs : sel n l = sdF n h b) : partO (fun s => okB s d) noBk n l = sdO h b d := by
 unfold partO sdO
 rw [anyL_sel, bytesL_sel, hs]
 unfold sdF
 cases h with
 | false => rfl
 | true =>
  simp only [paR, if_true, List.isEmpty_cons, Bool.not_false, List.flatMap_cons, List.flatMap_nil, List.append_nil]
  cases okB b.mar d <;> rfl
theorem sd_far {h : Bool} {b : Bk} {d e : Int} (he : (b.sz : Int) ≤ e) (hm : maySd h b d = true) : maySd h b e = true := by
 unfold maySd at hm ⊢
 cases h with
 | false => exact hm
 | true =>
  simp only [if_true] at hm ⊢
  exact mayB_far (by unfold Bk.sz at he; omega) hm
theorem last_zg {n : Nat} {o : Int} {l : List Fld} (h1 : -2147483648 ≤ o) (h2 : o < 2147483648) (h : sel n l = vrF n (k'2b o)) : zag32 (k'z l n).n = o := by
 rw [last_vr h]; exact zag_zig h1 h2
theorem wr_side (z : Bool) (h : Bool) (b : Bk) (n : Nat) (d : Int) (h1 : 1 ≤ n) (h2 : n ≤ 536870911) (hb : b.sz < big) (hw : b.wf) (hm : maySd h b d = true) (hd1 : -9223372036854775808 ≤ d) (hd2 : d < 9223372036854775808) :
  Wr B 215 [iT n, .d (.bool h), .d (bkZ z b.off b.cs b.u), .d (.int .i64 d)] (sdV n h b) := fun a l ha hl => by
 unfold maySd at hm
 cases h
 ·refine ⟨a, ha, ?_⟩
  rw [show sdV n false b = [] from rfl, List.append_nil]
  rcases ha with rfl | rfl | rfl <;> (rcases l with _ | ⟨c, l⟩ <;> (
  refine l_b0 Tryz.func215 1 [] ?_
  exact Z))
 have c1 := MarshalZ B z b.off b.cs b.u d hw.1.1 hw.1.2 hw.2 (by unfold Bk.sz at hb; unfold big at *; omega) hd1 hd2
 have hm' : b.may d = true := by simpa using hm
 rw [if_pos (show mayB b.u d = true from hm')] at c1
 rw [show sdV n true b = paV n b.mar from rfl] at hl ⊢
 obtain ⟨a', ha', h4⟩ := wr_part B n b.mar h1 h2 a l ha hl
 refine ⟨a', ha', ?_⟩
 rw [show marB b.off b.cs b.u = b.mar from rfl] at c1
 generalize l ++ paV n b.mar = y at *
 rcases ha with rfl | rfl | rfl <;> (rcases ha' with rfl | rfl | rfl <;> (rcases l with _ | ⟨c, l⟩ <;> (rcases y with _ | ⟨c', y⟩ <;> (
 refine l_bw Tryz.func215 1 [] ?_
 refine l_cw [] (c1) rfl rfl rfl ?_
 refine k'2 [0] (h4) rfl rfl rfl ?_
 exact Z))))
theorem maySide_calls (z : Bool) (h : Bool) (b : Bk) (d : Int) (hb : b.sz < big) (hd1 : -9223372036854775808 ≤ d) (hd2 : d < 9223372036854775808) : k'0 (cx B) 233 [.d (.bool h), .d (bkZ z b.off b.cs b.u), .d (.int .i64 d)] [] (.d (.bool (maySd h b d))) [] := by
 unfold maySd
 cases h
 ·have c1 := SameZ B z true b.off b.cs b.u 0 [] [] (by unfold Bk.sz big at hb; omega)
  refine l_bw Tryz.func233 0 [] ?_
  refine k'2 [] (c1) rfl rfl rfl ?_
  exact Z
 have c1 := MayBucketsZ B z b.off b.cs b.u d (by unfold Bk.sz at hb; omega) hd1 hd2
 refine l_bw Tryz.func233 0 [] ?_
 refine k'2 [] (c1) rfl rfl rfl ?_
 exact Z
end
