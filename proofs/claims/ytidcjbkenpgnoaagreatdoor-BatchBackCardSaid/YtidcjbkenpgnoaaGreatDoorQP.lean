/- Hist: alike, may they be, written, read. -/
import Derived.Test.YtidcjbkenpgnoaaGreatDoorHP
import Derived.Test.YtidcjbkenpgnoaaGreatDoorPAB
import Derived.Test.YtidcjbkenpgnoaaGreatDoorNW
set_option linter.unusedSimpArgs false
set_option linter.unusedVariables false
set_option maxRecDepth 100000
namespace Go.Proofs.YtidcjbkenpgnoaaGreatDoor
open Go Go.Abs
variable (B : Fr)
section
def Hi.d (x : Hi) : D := .agg [slD (Kv.ds x.attrs), .int .u64 x.start, .int .u64 x.time, .int .u64 x.count, .bool x.sumH, .int .u64 x.sum, .bool x.minH, .int .u64 x.min, .bool x.maxH, .int .u64 x.max, slD (x.counts.map uD), slD (x.bounds.map uD), slD (x.exs.map Em.d), .int .u32 x.flags, .str x.u]
def Hi.R (x : Hi) (a : D) : Prop := ∃ (z_attrs : Bool) (l_attrs : List D) (z_counts : Bool) (z_bounds : Bool) (z_exs : Bool) (l_exs : List D), a = .agg [.sl z_attrs l_attrs, .int .u64 x.start, .int .u64 x.time, .int .u64 x.count, .bool x.sumH, .int .u64 x.sum, .bool x.minH, .int .u64 x.min, .bool x.maxH, .int .u64 x.max, .sl z_counts (x.counts.map uD), .sl z_bounds (x.bounds.map uD), .sl z_exs l_exs, .int .u32 x.flags, .str x.u] ∧ Kv.Rs x.attrs l_attrs ∧ RsOf Em.R x.exs l_exs
def HiSh (x : D) : Prop := ∃ (a0 : Bool) (a1 : List D) (a2 : Nat) (a3 : Nat) (a4 : Nat) (a5 : Bool) (a6 : Nat) (a7 : Bool) (a8 : Nat) (a9 : Bool) (a10 : Nat) (a11 : Bool) (a12 : List D) (a13 : Bool) (a14 : List D) (a15 : Bool) (a16 : List D) (a17 : Nat) (a18 : List UInt8), x = .agg [.sl a0 a1, .int .u64 a2, .int .u64 a3, .int .u64 a4, .bool a5, .int .u64 a6, .bool a7, .int .u64 a8, .bool a9, .int .u64 a10, .sl a11 a12, .sl a13 a14, .sl a15 a16, .int .u32 a17, .str a18]
theorem Hi.R_sh {x : Hi} {a : D} (h : x.R a) : HiSh a := by
 obtain ⟨z_attrs, l_attrs, z_counts, z_bounds, z_exs, l_exs, h, -⟩ := h
 exact ⟨_, _, _, _, _, _, _, _, _, _, _, _, _, _, _, _, _, _, _, h⟩
theorem Hi.d_R (x : Hi) : x.R x.d := ⟨_, _, _, _, _, _, rfl, Kv.ds_R _, RsOf.map Em.d_R _⟩
theorem Hi.Rs_sh {l : List Hi} {xs : List D} (h : RsOf Hi.R l xs) : ∀ x ∈ xs, HiSh x := fun x hx => by
 obtain ⟨v, -, r⟩ := h.mem hx
 exact Hi.R_sh r
theorem Hi_Same_calls (x y : Hi) (xa ya : D) (hbig : x.sz < big) (hx : x.R xa) (hy : y.R ya) : k'0 (cx B) 239 [.d xa, .d ya] [] (.d (.bool (x.eq y))) [] := by
 obtain ⟨z_attrs, l_attrs, z_counts, z_bounds, z_exs, l_exs, rfl, r_attrs, r_exs⟩ := hx
 obtain ⟨y_attrs, m_attrs, y_counts, y_bounds, y_exs, m_exs, rfl, s_attrs, s_exs⟩ := hy
 unfold Hi.sz at hbig
 have c_attrs := k'1a B (a := x.attrs) (b := y.attrs) z_attrs y_attrs (by omega) r_attrs s_attrs
 have c_exs := EqF_Em_R B z_exs y_exs (by omega) r_exs s_exs
 have c_counts := EqualZ B z_counts y_counts x.counts y.counts (by unfold big at hbig; omega)
 have c_bounds := EqualZ B z_bounds y_bounds x.bounds y.bounds (by unfold big at hbig; omega)
 rw [show x.eq y = ((x.start == y.start) && (x.time == y.time) && (x.count == y.count) && (x.sumH == y.sumH && x.sum == y.sum) && (x.minH == y.minH && x.min == y.min) && (x.maxH == y.maxH && x.max == y.max) && (x.flags == y.flags) && (x.u == y.u) && (x.counts == y.counts) && (x.bounds == y.bounds) && (Em.eqs x.exs y.exs) && (Kv.eqs x.attrs y.attrs)) by unfold Hi.eq; ac_rfl]
 refine l_bw Tryz.func239 0 [] ?_
 rw [ibeq x.start y.start]
 cases e0 : (x.start == y.start)
 ·exact Z
 refine Y ?_
 rw [ibeq x.time y.time]
 cases e1 : (x.time == y.time)
 ·exact Z
 refine Y ?_
 rw [ibeq x.count y.count]
 cases e2 : (x.count == y.count)
 ·exact Z
 refine Y ?_
 (first | refine k'3d (StepE.eqOpt rfl rfl rfl (opt_ok B)) rfl rfl rfl rfl ?_ | refine k'4 (StepE.eqOpt rfl rfl rfl (opt_ok B)) rfl rfl ?_)
 refine Y ?_
 cases e3 : (x.sumH == y.sumH && x.sum == y.sum)
 ·exact Z
 refine Y ?_
 (first | refine k'3d (StepE.eqOpt rfl rfl rfl (opt_ok B)) rfl rfl rfl rfl ?_ | refine k'4 (StepE.eqOpt rfl rfl rfl (opt_ok B)) rfl rfl ?_)
 refine Y ?_
 cases e4 : (x.minH == y.minH && x.min == y.min)
 ·exact Z
 refine Y ?_
 (first | refine k'3d (StepE.eqOpt rfl rfl rfl (opt_ok B)) rfl rfl rfl rfl ?_ | refine k'4 (StepE.eqOpt rfl rfl rfl (opt_ok B)) rfl rfl ?_)
 refine Y ?_
 cases e5 : (x.maxH == y.maxH && x.max == y.max)
 ·exact Z
 refine Y ?_
 rw [ibeq x.flags y.flags]
 cases e6 : (x.flags == y.flags)
 ·exact Z
 refine Y ?_
 cases e7 : (x.u == y.u)
 ·exact Z
 refine Y ?_
 refine k'1w [] (c_counts) rfl rfl rfl rfl rfl ?_
 cases e8 : (x.counts == y.counts)
 ·exact Z
 refine Y ?_
 refine k'1w [] (c_bounds) rfl rfl rfl rfl rfl ?_
 cases e9 : (x.bounds == y.bounds)
 ·exact Z
 refine Y ?_
 refine k'1w [] (c_exs) rfl rfl rfl rfl rfl ?_
 cases e10 : (Em.eqs x.exs y.exs)
 ·exact Z
 refine Y ?_
 refine k'8 [] (c_attrs) rfl rfl rfl rfl rfl ?_
 exact Z
theorem EqF_Hi_calls : EqFP B 238 HiSh := EqF_mk B Tryz.func238
theorem EqF_Hi_R : EqRP B 238 239 Hi.R Hi.sz Hi.eqs := EqF_R B (EqF_Hi_calls B) Hi.Rs_sh (fun x => by unfold Hi.sz; omega) Hi.eqs_by (Hi_Same_calls B)
theorem Hi_May_calls (x : Hi) (xa : D) (d : Int) (hbig : x.sz < big) (hx : x.R xa) (hd1 : -9223372036854775808 ≤ d) (hd2 : d < 9223372036854775808) : k'0 (cx B) 255 [.d xa, .d (.int .i64 d)] [] (.d (.bool (x.may d))) [] := by
 obtain ⟨z_attrs, l_attrs, z_counts, z_bounds, z_exs, l_exs, rfl, r_attrs, r_exs⟩ := hx
 unfold Hi.sz at hbig
 unfold Hi.may
 by_cases hd0 : 0 ≤ d
 rotate_left
 ·rw [show decide (0 ≤ d) = false from decide_eq_false hd0]
  refine l_bw Tryz.func255 0 [] ?_
  rw [show decide (d ≥ 0) = false from decide_eq_false hd0]
  exact Z
 have c_u := k't B 342 tbH (tbH_calls B) x.u d (by omega) (by omega) hd2
 have c_opts := MayOpt3_calls B x.sumH x.sum x.minH x.min x.maxH x.max
 have c_exs := All_Em_R B z_exs d (by omega) hd0 hd2 r_exs
 have c_attrs := k'1f B (a := x.attrs) z_attrs (d - 1) (by omega) (by omega) (by omega) r_attrs
 refine l_bw Tryz.func255 0 [] ?_
 rw [show decide (d ≥ 0) = decide (0 ≤ d) from rfl]
 cases e0 : (decide (0 ≤ d))
 ·exact Z
 refine Y ?_
 (first | refine k'3d (.buildSlice (es := [.agg [.bool x.sumH, .int .u64 x.sum], .agg [.bool x.minH, .int .u64 x.min], .agg [.bool x.maxH, .int .u64 x.max]]) rfl rfl rfl rfl rfl rfl (by intro x hx; simp at hx; rcases hx with rfl | rfl | rfl <;> rfl) (by simp) (by decide) (by decide)) rfl rfl rfl rfl ?_ | refine k'4 (.buildSlice (es := [.agg [.bool x.sumH, .int .u64 x.sum], .agg [.bool x.minH, .int .u64 x.min], .agg [.bool x.maxH, .int .u64 x.max]]) rfl rfl rfl rfl rfl rfl (by intro x hx; simp at hx; rcases hx with rfl | rfl | rfl <;> rfl) (by simp) (by decide) (by decide)) rfl rfl ?_)
 refine Y ?_
 refine k'1w [] (c_opts) rfl rfl rfl rfl rfl ?_
 cases e1 : (k'1c x.sumH x.sum && k'1c x.minH x.min && k'1c x.maxH x.max)
 ·exact Z
 refine Y ?_
 refine k'1w [] (c_exs) rfl rfl rfl rfl rfl ?_
 cases e2 : (x.exs.all fun k => k.may (d - 1))
 ·exact Z
 refine Y ?_
 rw [k'11 1 (by omega) (by omega) (by omega) hd2]
 refine k'1w [] (c_attrs) rfl rfl rfl rfl rfl ?_
 cases e3 : (x.attrs.all fun k => k.may (d - 1))
 ·exact Z
 refine Y ?_
 refine k'8 [] (c_u) rfl rfl rfl rfl rfl ?_
 exact Z
theorem All_Hi_calls : AllP B 254 HiSh := All_of B (All1_mk B Tryz.func340) (k'2m B Tryz.func414) (Cont_mk B Tryz.func339) (Allc_mk B Tryz.func254)
theorem All_Hi_R : AllRP B 254 255 Hi.R Hi.sz Hi.may := All_R B (All_Hi_calls B) Hi.Rs_sh (fun x => by unfold Hi.sz; omega) (Hi_May_calls B)
theorem Hi_Marshal_calls (x : Hi) (xa : D) (d : Int) (hbig : x.sz < big) (hwf : x.wf) (hx : x.R xa) (hd1 : -9223372036854775808 ≤ d) (hd2 : d < 9223372036854775808) : k'0 (cx B) 318 [.d xa, .d (.int .i64 d)] [] (if x.may d then .tup [sT x.mar, .d .nili] else .tup [sT [], .d (Er.code 8).d]) [] := by
 have hm := Hi_May_calls B x xa d hbig hx hd1 hd2
 have hlen := Hi.mar_len x
 have hlen : x.mar.length < big := by omega
 obtain ⟨z_attrs, l_attrs, z_counts, z_bounds, z_exs, l_exs, rfl, r_attrs, r_exs⟩ := hx
 unfold Hi.sz at hbig
 cases hc : x.may d
 ·rw [hc] at hm
  refine l_bw Tryz.func318 0 [] ?_
  refine k'1 [] (hm) rfl rfl rfl ?_
  exact Z
 rw [hc] at hm
 have hc' := hc
 unfold Hi.may at hc'
 simp only [Bool.and_eq_true, decide_eq_true_eq] at hc'
 obtain ⟨⟨⟨⟨hd, ⟨⟨m_sum, m_min⟩, m_max⟩⟩, m_exs⟩, m_attrs⟩, hu⟩ := hc'
 obtain ⟨w_attrs, w_start, w_time, w_count, w_sum, w_min, w_max, w_counts, w_bounds, w_exs, w_flags⟩ := hwf
 unfold Hi.mar Hi.hb at hlen ⊢
 obtain ⟨a0, ha0, c0⟩ := k'1o B 2 x.start (by omega) (by omega) (.nw 71 2) [] k'22 (by simp only [List.length_append, List.length_nil] at hlen ⊢; omega)
 rw [List.nil_append] at c0
 obtain ⟨a1, ha1, c1⟩ := k'1o B 3 x.time (by omega) (by omega) (a0) (fxV 2 x.start) ha0 (by simp only [List.length_append, List.length_nil] at hlen ⊢; omega)
 obtain ⟨a2, ha2, c2⟩ := k'1o B 4 x.count (by omega) (by omega) (a1) (fxV 2 x.start ++ fxV 3 x.time) ha1 (by simp only [List.length_append, List.length_nil] at hlen ⊢; omega)
 obtain ⟨a3, ha3, c3⟩ := wr_opt B x.sumH 5 x.sum (by omega) (by omega) (a2) (fxV 2 x.start ++ fxV 3 x.time ++ fxV 4 x.count) ha2 (by simp only [List.length_append, List.length_nil] at hlen ⊢; omega)
 obtain ⟨a4, ha4, c4⟩ := wr_fixeds B z_counts 6 x.counts (by omega) (by omega) (by unfold big at hbig; omega) (a3) (fxV 2 x.start ++ fxV 3 x.time ++ fxV 4 x.count ++ opV 5 x.sumH x.sum) ha3 (by simp only [List.length_append, List.length_nil] at hlen ⊢; omega)
 obtain ⟨a5, ha5, c5⟩ := wr_fixeds B z_bounds 7 x.bounds (by omega) (by omega) (by unfold big at hbig; omega) (a4) (fxV 2 x.start ++ fxV 3 x.time ++ fxV 4 x.count ++ opV 5 x.sumH x.sum ++ pwV 6 x.counts) ha4 (by simp only [List.length_append, List.length_nil] at hlen ⊢; omega)
 obtain ⟨a6, ha6, c6⟩ := Parts_Em_R B 8 (by omega) (by omega) z_exs d (by omega) w_exs m_exs hd hd2 r_exs (a5) (fxV 2 x.start ++ fxV 3 x.time ++ fxV 4 x.count ++ opV 5 x.sumH x.sum ++ pwV 6 x.counts ++ pwV 7 x.bounds) ha5 (by simp only [List.length_append, List.length_nil] at hlen ⊢; omega)
 obtain ⟨a7, ha7, c7⟩ := k'34 B 9 (by omega) (by omega) z_attrs d (by omega) w_attrs m_attrs hd hd2 r_attrs (a6) (fxV 2 x.start ++ fxV 3 x.time ++ fxV 4 x.count ++ opV 5 x.sumH x.sum ++ pwV 6 x.counts ++ pwV 7 x.bounds ++ psV 8 (x.exs.map Em.mar)) ha6 (by simp only [List.length_append, List.length_nil] at hlen ⊢; omega)
 obtain ⟨a8, ha8, c8⟩ := wr_var B 10 x.flags (by omega) (by omega) (by omega) (a7) (fxV 2 x.start ++ fxV 3 x.time ++ fxV 4 x.count ++ opV 5 x.sumH x.sum ++ pwV 6 x.counts ++ pwV 7 x.bounds ++ psV 8 (x.exs.map Em.mar) ++ psV 9 (Kv.mars x.attrs)) ha7 (by simp only [List.length_append, List.length_nil] at hlen ⊢; omega)
 obtain ⟨a9, ha9, c9⟩ := wr_opt B x.minH 11 x.min (by omega) (by omega) (a8) (fxV 2 x.start ++ fxV 3 x.time ++ fxV 4 x.count ++ opV 5 x.sumH x.sum ++ pwV 6 x.counts ++ pwV 7 x.bounds ++ psV 8 (x.exs.map Em.mar) ++ psV 9 (Kv.mars x.attrs) ++ vrV 10 x.flags) ha8 (by simp only [List.length_append, List.length_nil] at hlen ⊢; omega)
 obtain ⟨a10, ha10, c10⟩ := wr_opt B x.maxH 12 x.max (by omega) (by omega) (a9) (fxV 2 x.start ++ fxV 3 x.time ++ fxV 4 x.count ++ opV 5 x.sumH x.sum ++ pwV 6 x.counts ++ pwV 7 x.bounds ++ psV 8 (x.exs.map Em.mar) ++ psV 9 (Kv.mars x.attrs) ++ vrV 10 x.flags ++ opV 11 x.minH x.min) ha9 (by simp only [List.length_append, List.length_nil] at hlen ⊢; omega)
 obtain ⟨cu, cs⟩ := k'26 B (s := x.u) ha10 (l := fxV 2 x.start ++ fxV 3 x.time ++ fxV 4 x.count ++ opV 5 x.sumH x.sum ++ pwV 6 x.counts ++ pwV 7 x.bounds ++ psV 8 (x.exs.map Em.mar) ++ psV 9 (Kv.mars x.attrs) ++ vrV 10 x.flags ++ opV 11 x.minH x.min ++ opV 12 x.maxH x.max) (by simp only [List.length_append] at hlen ⊢; omega)
 generalize fxV 2 x.start ++ fxV 3 x.time ++ fxV 4 x.count ++ opV 5 x.sumH x.sum ++ pwV 6 x.counts ++ pwV 7 x.bounds ++ psV 8 (x.exs.map Em.mar) ++ psV 9 (Kv.mars x.attrs) ++ vrV 10 x.flags ++ opV 11 x.minH x.min ++ opV 12 x.maxH x.max = o10 at c10 cu cs ⊢
 generalize fxV 2 x.start ++ fxV 3 x.time ++ fxV 4 x.count ++ opV 5 x.sumH x.sum ++ pwV 6 x.counts ++ pwV 7 x.bounds ++ psV 8 (x.exs.map Em.mar) ++ psV 9 (Kv.mars x.attrs) ++ vrV 10 x.flags ++ opV 11 x.minH x.min = o9 at c9 c10
 generalize fxV 2 x.start ++ fxV 3 x.time ++ fxV 4 x.count ++ opV 5 x.sumH x.sum ++ pwV 6 x.counts ++ pwV 7 x.bounds ++ psV 8 (x.exs.map Em.mar) ++ psV 9 (Kv.mars x.attrs) ++ vrV 10 x.flags = o8 at c8 c9
 generalize fxV 2 x.start ++ fxV 3 x.time ++ fxV 4 x.count ++ opV 5 x.sumH x.sum ++ pwV 6 x.counts ++ pwV 7 x.bounds ++ psV 8 (x.exs.map Em.mar) ++ psV 9 (Kv.mars x.attrs) = o7 at c7 c8
 generalize fxV 2 x.start ++ fxV 3 x.time ++ fxV 4 x.count ++ opV 5 x.sumH x.sum ++ pwV 6 x.counts ++ pwV 7 x.bounds ++ psV 8 (x.exs.map Em.mar) = o6 at c6 c7
 generalize fxV 2 x.start ++ fxV 3 x.time ++ fxV 4 x.count ++ opV 5 x.sumH x.sum ++ pwV 6 x.counts ++ pwV 7 x.bounds = o5 at c5 c6
 generalize fxV 2 x.start ++ fxV 3 x.time ++ fxV 4 x.count ++ opV 5 x.sumH x.sum ++ pwV 6 x.counts = o4 at c4 c5
 generalize fxV 2 x.start ++ fxV 3 x.time ++ fxV 4 x.count ++ opV 5 x.sumH x.sum = o3 at c3 c4
 generalize fxV 2 x.start ++ fxV 3 x.time ++ fxV 4 x.count = o2 at c2 c3
 generalize fxV 2 x.start ++ fxV 3 x.time = o1 at c1 c2
 generalize fxV 2 x.start = o0 at c0 c1
 refine l_bw Tryz.func318 0 [] ?_
 refine l_cw [] (hm) rfl rfl rfl ?_
 refine l_wr [1] (c0) k'22 ha0 ?_
 refine l_wr [1] (c1) ha0 ha1 ?_
 refine l_wr [1] (c2) ha1 ha2 ?_
 refine l_wr [1] (c3) ha2 ha3 ?_
 refine l_wr [1] (c4) ha3 ha4 ?_
 refine l_wr [1] (c5) ha4 ha5 ?_
 refine l_wr [1] (c6) ha5 ha6 ?_
 refine l_wr [1] (c7) ha6 ha7 ?_
 rw [show IntKind.u64.wrap (x.flags : Int) = (x.flags : Int) by rw [IntKind.wrap_u64]; omega]
 refine l_wr [1] (c8) ha7 ha8 ?_
 refine l_wr [1] (c9) ha8 ha9 ?_
 refine l_wr [1] (c10) ha9 ha10 ?_
 refine l_wr [1] (cu) ha10 (.inl rfl) ?_
 refine k'1g [1] (cs) rfl rfl rfl rfl rfl rfl rfl (by decide) (by simp [k'5 (.inl rfl)]) rfl rfl rfl rfl ?_
 exact Z
theorem Parts_Hi_wr : PartsP B 317 HiSh := k'3j B Tryz.func317
theorem Parts_Hi_R : k'3o B 317 318 Hi.R Hi.sz Hi.wf Hi.may Hi.mar := Parts_R B (Parts_Hi_wr B) Hi.Rs_sh (Hi_Marshal_calls B)
theorem Hi_fits (l : List Hi) : ∀ a ∈ l.map Hi.d, a.fits 15 = true := by
 intro a ha
 obtain ⟨c, -, rfl⟩ := List.mem_map.1 ha
 rfl
theorem part_Hi_calls : partP B 366 Hi.d := k'2s B Tryz.func366
theorem List_Hi_calls : ListP B 286 Hi.d := List_S B (fun x => Hi_fits [x]) (part_Hi_calls B) (k'4u B Tryz.func286)
theorem List_Hi_tells : ListT B 286 Hi.d := k'1r B (List_Hi_calls B)
theorem okHi_rd (s : List UInt8) (d : Int) : okHi s d = (match k'd s d, k'3 (fun s => okK s (d - 1)) 9 (knB tbH s d), k'2j fixs 6 (knB tbH s d), k'2j fixs 7 (knB tbH s d), k'3 (fun s => okEm s (d - 1)) 8 (knB tbH s d) with
 | none, some attrs, some counts, some bounds, some exs => some ⟨attrs, (k'6 (knB tbH s d) 2).n, (k'6 (knB tbH s d) 3).n, (k'6 (knB tbH s d) 4).n, (hasL (knB tbH s d) 5), (k'6 (knB tbH s d) 5).n, (hasL (knB tbH s d) 11), (k'6 (knB tbH s d) 11).n, (hasL (knB tbH s d) 12), (k'6 (knB tbH s d) 12).n, counts, bounds, exs, (k'6 (knB tbH s d) 10).n % 4294967296, unB tbH s d⟩
 | _, _, _, _, _ => none) := by
 unfold okHi
 rw [k'4a]
 cases k'd s d with
 | some e => rfl
 | none =>
  unfold tellHi
  simp only
  cases k'3 (fun s => okK s (d - 1)) 9 (knB tbH s d) with
  | none => rfl
  | some attrs =>
   cases k'2j fixs 6 (knB tbH s d) with
   | none => rfl
   | some counts =>
    cases k'2j fixs 7 (knB tbH s d) with
    | none => rfl
    | some bounds =>
     cases k'3 (fun s => okEm s (d - 1)) 8 (knB tbH s d) with
     | none => rfl
     | some exs =>
      rfl
theorem Hi_read (hB : BOk B) (s : List UInt8) (d : Int) (hl : s.length < big) (hd1 : -9223372036854775808 ≤ d) (hd2 : d < 9223372036854775808) :
  RdZ B 287 Hi.d noHi (okHi s d) s d ∧ (∀ e0, k'd s d = some e0 → k'0 (cx B) 287 [sT s, .d (.int .i64 d)] [] (.tup [.d noHi.d, .d e0.d]) []) := by
 have h1 := k'o B hB 342 tbH (tbH_calls B) s d hl hd1 hd2
 have hk : LOk (knB tbH s d) := k'e tbH s d hl
 have hm := k'1p hk
 obtain ⟨vs_attrs, e1, c_attrs, t1⟩ := k'15 B hB (fun s => okK s (d - 1)) Kv.sh noKV 168 [] (k'd s d) (unB tbH s d) d s.length (knB tbH s d) 9 hk (fun h => by have := k'1u h; omega) hd2 (fun x hx hn => k'16 B hB x.s (d - 1) (lok_s hk hx) (by have := k'2e hx; omega) (by omega))
 obtain ⟨vs_counts, e2, c_counts, t2⟩ := rFixeds_tells B hB e1 (unB tbH s d) d s.length (knB tbH s d) 6 hk
 obtain ⟨vs_bounds, e3, c_bounds, t3⟩ := rFixeds_tells B hB e2 (unB tbH s d) d s.length (knB tbH s d) 7 hk
 obtain ⟨vs_exs, e4, c_exs, t4⟩ := k'4v B hB (fun s => okEm s (d - 1)) id noEm 364 [] e3 (unB tbH s d) d s.length (knB tbH s d) 8 hk (fun h => by have := k'1u h; omega) hd2 (fun x hx hn => (Em_read B hB x.s (d - 1) (lok_s hk hx) (by have := k'2e hx; omega) (by omega)).1.at)
 have hein : ∀ x, e4 = some x → EIn s.length x := t4.ein (t3.ein (t2.ein (t1.ein (fun x hx => k'n hx))))
 have main : k'0 (cx B) 287 [sT s, .d (.int .i64 d)] [] (.tup [.d (orD e4 (.agg [slD (vs_attrs.map KVs.d), .int .u64 (k'6 (knB tbH s d) 2).n, .int .u64 (k'6 (knB tbH s d) 3).n, .int .u64 (k'6 (knB tbH s d) 4).n, .bool (hasL (knB tbH s d) 5), .int .u64 (k'6 (knB tbH s d) 5).n, .bool (hasL (knB tbH s d) 11), .int .u64 (k'6 (knB tbH s d) 11).n, .bool (hasL (knB tbH s d) 12), .int .u64 (k'6 (knB tbH s d) 12).n, slD (vs_counts.map uD), slD (vs_bounds.map uD), slD (vs_exs.map Em.d), .int .u32 ((k'6 (knB tbH s d) 10).n % 4294967296 : Nat), .str (unB tbH s d)]) noHi.d), .d (eD e4)]) [] := by
  clear hein t1 t2 t3 t4
  refine l_bw Tryz.func287 0 [] ?_
  refine l_cw [] (h1) rfl rfl rfl ?_
  refine k'3q (i0 := 28) (z := 29) (t0 := 7) rfl (by decide) rfl rfl rfl rfl rfl rfl rfl rfl rfl rfl ?_
  refine Y ?_
  refine x_cw [1] (c_attrs) rfl rfl rfl ?_
  refine x_cw [1] (k'9 B e1 (unB tbH s d) d s.length (knB tbH s d) 2 hm) rfl rfl rfl ?_
  refine x_cw [1] (k'9 B e1 (unB tbH s d) d s.length (knB tbH s d) 3 hm) rfl rfl rfl ?_
  refine x_cw [1] (k'9 B e1 (unB tbH s d) d s.length (knB tbH s d) 4 hm) rfl rfl rfl ?_
  refine x_cw [1] (k'52 B e1 (unB tbH s d) d s.length (knB tbH s d) 5 hm) rfl rfl rfl ?_
  refine x_cw [1] (k'52 B e1 (unB tbH s d) d s.length (knB tbH s d) 11 hm) rfl rfl rfl ?_
  refine x_cw [1] (k'52 B e1 (unB tbH s d) d s.length (knB tbH s d) 12 hm) rfl rfl rfl ?_
  refine x_cw [1] (c_counts) rfl rfl rfl ?_
  refine x_cw [1] (c_bounds) rfl rfl rfl ?_
  refine x_cw [1] (c_exs) rfl rfl rfl ?_
  refine x_cw [1] (k'9 B e4 (unB tbH s d) d s.length (knB tbH s d) 10 hm) rfl rfl rfl ?_
  rw [u32w]
  cases e4 with
  | none =>
   exact Z
  | some er =>
   cases er <;> (
   exact Z)
 constructor
 ·rw [okHi_rd]
  cases e4 with
  | none =>
   obtain ⟨k3, a_exs, g_exs, v_exs⟩ := t4.ok
   subst k3
   obtain ⟨k2, a_bounds, g_bounds, v_bounds⟩ := t3.ok
   subst k2
   obtain ⟨k1, a_counts, g_counts, v_counts⟩ := t2.ok
   subst k1
   obtain ⟨k0, a_attrs, g_attrs, v_attrs⟩ := t1.ok
   rw [k0, g_attrs, g_counts, g_bounds, g_exs]
   subst v_attrs
   simp only [id_eq] at v_counts
   subst v_counts
   simp only [id_eq] at v_bounds
   subst v_bounds
   rw [List.map_id] at v_exs
   subst v_exs
   rw [ks_map a_attrs] at main
   exact main
  | some er =>
   have hno : (match k'd s d, k'3 (fun s => okK s (d - 1)) 9 (knB tbH s d), k'2j fixs 6 (knB tbH s d), k'2j fixs 7 (knB tbH s d), k'3 (fun s => okEm s (d - 1)) 8 (knB tbH s d) with
    | none, some attrs, some counts, some bounds, some exs => some (⟨attrs, (k'6 (knB tbH s d) 2).n, (k'6 (knB tbH s d) 3).n, (k'6 (knB tbH s d) 4).n, (hasL (knB tbH s d) 5), (k'6 (knB tbH s d) 5).n, (hasL (knB tbH s d) 11), (k'6 (knB tbH s d) 11).n, (hasL (knB tbH s d) 12), (k'6 (knB tbH s d) 12).n, counts, bounds, exs, (k'6 (knB tbH s d) 10).n % 4294967296, unB tbH s d⟩ : Hi)
    | _, _, _, _, _ => none) = none := by
    cases hr : k'd s d with
    | some x => rfl
    | none =>
     rw [hr] at t1
     cases hp0 : k'3 (fun s => okK s (d - 1)) 9 (knB tbH s d) with
     | none => rfl
     | some a0 =>
      rw [hp0] at t1
      obtain ⟨-, q0⟩ := t1.get
      subst q0
      cases hp1 : k'2j fixs 6 (knB tbH s d) with
      | none => split <;> simp_all
      | some a1 =>
       rw [hp1] at t2
       obtain ⟨-, q1⟩ := t2.get
       subst q1
       cases hp2 : k'2j fixs 7 (knB tbH s d) with
       | none => split <;> simp_all
       | some a2 =>
        rw [hp2] at t3
        obtain ⟨-, q2⟩ := t3.get
        subst q2
        cases hp3 : k'3 (fun s => okEm s (d - 1)) 8 (knB tbH s d) with
        | none => split <;> simp_all
        | some a3 =>
         rw [hp3] at t4
         have := t4.get.2; simp at this
   rw [hno]
   exact ⟨er, hein er rfl, main⟩
 ·intro e0 he
  rw [he] at t1
  have k1 := t1.keep
  subst k1
  have k2 := t2.keep
  subst k2
  have k3 := t3.keep
  subst k3
  have k4 := t4.keep
  subst k4
  exact main
end
section
def Bk.mar (b : Bk) : List UInt8 := marB b.off b.cs b.u
def Bk.wf (b : Bk) : Prop := (-2147483648 ≤ b.off ∧ b.off < 2147483648) ∧ ∀ n ∈ b.cs, n < 2 ^ 64
def Bk.sz (b : Bk) : Nat := 120 + 10 * b.cs.length + b.u.length
def Bk.may (b : Bk) (d : Int) : Bool := mayB b.u d
def Bk.isNo (b : Bk) : Bool := b.off == 0 && b.u == [] && b.cs == []
def Bk.eq (a b : Bk) : Bool := a.off == b.off && a.u == b.u && a.cs == b.cs
theorem Bk.isNo_eq {b : Bk} (h : b.isNo = true) : b = noBk := by
 obtain ⟨o, cs, u⟩ := b
 unfold Bk.isNo at h
 simp at h
 obtain ⟨⟨rfl, rfl⟩, rfl⟩ := h
 rfl
theorem Bk.mar_len (b : Bk) : b.mar.length + 20 ≤ b.sz := by
 have := k'2a 1 (k'2v b.off); have := pkV_len 2 b.cs
 unfold Bk.mar marB Bk.sz
 simp only [List.length_append]
 omega
theorem Bk_pk {b : Bk} (h : b.sz < big) : (k'49 b.cs).length < 2 ^ 64 := by
 have := packV_len b.cs
 unfold Bk.sz big at h; omega
theorem Bk_back : Back okB Bk.mar Bk.may (fun b => b.sz < big ∧ b.wf) := fun d b hf hm =>
 ⟨okB_mar hm hf.2.1.1 hf.2.1.2 hf.2.2 (Bk_pk hf.1), fun e he h => okB_less hm he hf.2.1.1 hf.2.1.2 (Bk_pk hf.1) h⟩
theorem Bk_told : Told okB Bk.may Bk.wf Bk.sz 120 := fun d s b h => by
 obtain ⟨h1, h2⟩ := okB_len h
 exact ⟨okB_may h, okB_rng h, by unfold Bk.sz; omega⟩
def sdV (n : Nat) (h : Bool) (b : Bk) : List UInt8 := if h then paV n b.mar else []
def sdF (n : Nat) (h : Bool) (b : Bk) : List Fld := if h then [paR n b.mar] else []
def maySd (h : Bool) (b : Bk) (d : Int) : Bool := if h then b.may d else b.isNo
def sdO (h : Bool) (b : Bk) (d : Int) : Option (Bool × Bk) := if h then (match okB b.mar d with | none => none | some x => some (true, x)) else some (false, noBk)
theorem sdV_len (n : Nat) (h : Bool) (b : Bk) : (sdV n h b).length ≤ b.sz := by
 unfold sdV
 have := b.mar_len
 split
 ·have := k'3c n b.mar; omega
 ·simp
section
variable (n m : Nat) (h : Bool) (b : Bk)
theorem sel_sd : sel m (sdF n h b) = if n = m then sdF n h b else [] := sel_of (by unfold sdF; split <;> simp [paR]) m
theorem in_sd {tb : Nat → Nat → Bool} (ht : tb n 2 = true) : inT tb (sdF n h b) = true := by unfold sdF inT; split <;> simp [isT, paR, ht]
theorem all_sd (h1 : 1 ≤ n) (h2 : n ≤ 536870911) (d : Int) (hb : b.sz < big) : all (sdV n h b) d = .ok (sdF n h b) := by
 unfold sdV sdF
 have := b.mar_len
 unfold big at hb
 split
 ·exact all_pa h1 h2 d (by omega)
 ·exact k'3e d
end
theorem part_sd {n : Nat} {h : Bool} {b : Bk} {l : List Fld} (d : Int) (hs : sel n l = sdF n h b) : k'3p (fun s => okB s d) noBk n l = sdO h b d := by
 unfold k'3p sdO
 rw [anyL_sel, k'4n, hs]
 unfold sdF
 cases h with
 | false => rfl
 | true =>
  simp only [paR, if_true, List.isEmpty_cons, Bool.not_false, List.flatMap_cons, List.flatMap_nil, List.append_nil]
  cases okB b.mar d <;> rfl
theorem sd_back (h : Bool) (b : Bk) (d : Int) (hf : b.sz < big ∧ b.wf) (hm : maySd h b d = true) : sdO h b d = some (h, b) ∧ ∀ e, e ≤ d → maySd h b e = false → sdO h b e = none := by
 unfold maySd at hm ⊢
 unfold sdO
 cases h
 ·have hb : b = noBk := Bk.isNo_eq (by simpa using hm)
  subst hb
  refine ⟨rfl, fun e _ he => ?_⟩
  have : noBk.isNo = true := rfl
  simp [this] at he
 obtain ⟨h1, h2⟩ := Bk_back d b hf (by simpa using hm)
 exact ⟨by simp only [if_true, h1], fun e he hn => by simp only [if_true, h2 e he (by simpa using hn)]⟩
theorem sd_told {n : Nat} {l : List Fld} {p : Bool × Bk} {d : Int} (hl : ∀ x ∈ l, FOk x) (h : k'3p (fun s => okB s d) noBk n l = some p) : maySd p.1 p.2 d = true ∧ p.2.wf ∧ p.2.sz ≤ 120 + 120 * wt l := by
 unfold k'3p at h
 split at h
 ·split at h
  ·simp at h
  rename_i x hx
  injection h with h; subst h
  obtain ⟨i1, i2, i3⟩ := Bk_told d _ x hx
  have := bytesL_wt hl n
  exact ⟨i1, i2, by show x.sz ≤ _; omega⟩
 ·injection h with h; subst h
  exact ⟨rfl, ⟨by show -2147483648 ≤ (0 : Int); omega, by show (0 : Int) < 2147483648; omega⟩ |> fun a => ⟨a, by show ∀ n ∈ ([] : List Nat), n < 2 ^ 64; simp⟩, by show 120 + 10 * 0 + 0 ≤ _; omega⟩
theorem Bk.eq_self (b : Bk) : b.eq b = true := by unfold Bk.eq; simp
theorem last_zg {n : Nat} {o : Int} {l : List Fld} (h1 : -2147483648 ≤ o) (h2 : o < 2147483648) (h : sel n l = vrF n (k'2v o)) : zag32 (k'6 l n).n = o := by
 rw [last_vr h]; exact zag_zig h1 h2
theorem wr_side (z : Bool) (h : Bool) (b : Bk) (n : Nat) (d : Int) (h1 : 1 ≤ n) (h2 : n ≤ 536870911) (hb : b.sz < big) (hw : b.wf) (hm : maySd h b d = true) (hd1 : -9223372036854775808 ≤ d) (hd2 : d < 9223372036854775808) :
  Wr B 398 [iT n, .d (.bool h), .d (bkZ z b.off b.cs b.u), .d (.int .i64 d)] (sdV n h b) := fun a l ha hl => by
 unfold maySd at hm
 cases h
 ·refine ⟨a, ha, ?_⟩
  rw [show sdV n false b = [] from rfl, List.append_nil]
  rcases ha with rfl | rfl | rfl <;> (rcases l with _ | ⟨c, l⟩ <;> (
  refine l_b0 Tryz.func398 1 [] ?_
  exact Z))
 have c1 := MarshalZ B z b.off b.cs b.u d hw.1.1 hw.1.2 hw.2 (by unfold Bk.sz at hb; unfold big at *; omega) hd1 hd2
 have hm' : b.may d = true := by simpa using hm
 rw [if_pos (show mayB b.u d = true from hm')] at c1
 rw [show sdV n true b = paV n b.mar from rfl] at hl ⊢
 obtain ⟨a', ha', h4⟩ := k'56 B n b.mar h1 h2 a l ha hl
 refine ⟨a', ha', ?_⟩
 rw [show marB b.off b.cs b.u = b.mar from rfl] at c1
 generalize l ++ paV n b.mar = y at *
 rcases ha with rfl | rfl | rfl <;> (rcases ha' with rfl | rfl | rfl <;> (rcases l with _ | ⟨c, l⟩ <;> (rcases y with _ | ⟨c', y⟩ <;> (
 refine l_bw Tryz.func398 1 [] ?_
 refine l_cw [] (c1) rfl rfl rfl ?_
 refine k'1 [0] (h4) rfl rfl rfl ?_
 exact Z))))
theorem maySide_calls (z : Bool) (h : Bool) (b : Bk) (d : Int) (hb : b.sz < big) (hd1 : -9223372036854775808 ≤ d) (hd2 : d < 9223372036854775808) : k'0 (cx B) 345 [.d (.bool h), .d (bkZ z b.off b.cs b.u), .d (.int .i64 d)] [] (.d (.bool (maySd h b d))) [] := by
 unfold maySd
 cases h
 ·have c1 := SameZ B z true b.off b.cs b.u 0 [] [] (by unfold Bk.sz big at hb; omega)
  refine l_bw Tryz.func345 0 [] ?_
  refine k'1 [] (c1) rfl rfl rfl ?_
  exact Z
 have c1 := MayBucketsZ B z b.off b.cs b.u d (by unfold Bk.sz at hb; omega) hd1 hd2
 refine l_bw Tryz.func345 0 [] ?_
 refine k'1 [] (c1) rfl rfl rfl ?_
 exact Z
theorem UB_rd (hB : BOk B) (s : List UInt8) (d : Int) (hl : s.length < big) (hd1 : -9223372036854775808 ≤ d) (hd2 : d < 9223372036854775808) : RdAt B 372 [] Bk.d id (okB s d) s d := by
 have h1 := k'4q B hB s d hl hd1 hd2
 unfold RdAt
 cases ho : okB s d with
 | some b =>
  rw [okB_some ho] at h1; exact h1
 | none =>
  obtain ⟨e, he⟩ := okB_none ho
  have hin := ubB_err (s := s) (d := d) (e := e) (by rw [he])
  rw [he] at h1
  exact ⟨noBk, e, hin, h1⟩
end
section
structure Eh where
 attrs : List Kv
 start : Nat
 time : Nat
 count : Nat
 sumH : Bool
 sum : Nat
 minH : Bool
 min : Nat
 maxH : Bool
 max : Nat
 scale : Int
 zero : Nat
 posH : Bool
 pos : Bk
 negH : Bool
 neg : Bk
 exs : List Em
 flags : Nat
 thr : Nat
 u : List UInt8
def noEh : Eh := ⟨[], 0, 0, 0, false, 0, false, 0, false, 0, 0, 0, false, noBk, false, noBk, [], 0, 0, []⟩
def Eh.hb (x : Eh) : List UInt8 := psV 1 (Kv.mars x.attrs) ++ fxV 2 x.start ++ fxV 3 x.time ++ fxV 4 x.count ++ opV 5 x.sumH x.sum ++ vrV 6 (k'2v x.scale) ++ fxV 7 x.zero ++ sdV 8 x.posH x.pos ++ sdV 9 x.negH x.neg ++ vrV 10 x.flags ++ psV 11 (x.exs.map Em.mar) ++ opV 12 x.minH x.min ++ opV 13 x.maxH x.max ++ fxV 14 x.thr
def Eh.hF (x : Eh) : List Fld := psF 1 (Kv.mars x.attrs) ++ fxF 2 x.start ++ fxF 3 x.time ++ fxF 4 x.count ++ opF 5 x.sumH x.sum ++ vrF 6 (k'2v x.scale) ++ fxF 7 x.zero ++ sdF 8 x.posH x.pos ++ sdF 9 x.negH x.neg ++ vrF 10 x.flags ++ psF 11 (x.exs.map Em.mar) ++ opF 12 x.minH x.min ++ opF 13 x.maxH x.max ++ fxF 14 x.thr
def Eh.mar (x : Eh) : List UInt8 := x.hb ++ x.u
def tbQ (n k : Nat) : Bool := bif [2, 3, 4, 5, 7, 12, 13, 14].contains n then k == 1 else bif [1, 8, 9, 11].contains n then k == 2 else bif [6, 10].contains n then k == 0 else false
theorem tbQ_calls (n k : Nat) : k'0 (cx B) 346 [iT n, iT k] [] (.d (.bool (tbQ n k))) [] := by
 refine l_bw Tryz.func346 0 [] ?_
 cases h0 : ((n : Int) == 2) with
 | true =>
  have e : n = 2 := by have := eq_of_beq h0; omega
  subst e
  rw [show tbQ 2 k = ((k : Int) == 1) from (ibeq k 1).symm]
  exact Z
 | false =>
 have eh0 : n ≠ 2 := by have := ne_of_beq_false h0; omega
 refine Y ?_
 cases h1 : ((n : Int) == 3) with
 | true =>
  have e : n = 3 := by have := eq_of_beq h1; omega
  subst e
  rw [show tbQ 3 k = ((k : Int) == 1) from (ibeq k 1).symm]
  exact Z
 | false =>
 have eh1 : n ≠ 3 := by have := ne_of_beq_false h1; omega
 refine Y ?_
 cases h2 : ((n : Int) == 4) with
 | true =>
  have e : n = 4 := by have := eq_of_beq h2; omega
  subst e
  rw [show tbQ 4 k = ((k : Int) == 1) from (ibeq k 1).symm]
  exact Z
 | false =>
 have eh2 : n ≠ 4 := by have := ne_of_beq_false h2; omega
 refine Y ?_
 cases h3 : ((n : Int) == 5) with
 | true =>
  have e : n = 5 := by have := eq_of_beq h3; omega
  subst e
  rw [show tbQ 5 k = ((k : Int) == 1) from (ibeq k 1).symm]
  exact Z
 | false =>
 have eh3 : n ≠ 5 := by have := ne_of_beq_false h3; omega
 refine Y ?_
 cases h4 : ((n : Int) == 7) with
 | true =>
  have e : n = 7 := by have := eq_of_beq h4; omega
  subst e
  rw [show tbQ 7 k = ((k : Int) == 1) from (ibeq k 1).symm]
  exact Z
 | false =>
 have eh4 : n ≠ 7 := by have := ne_of_beq_false h4; omega
 refine Y ?_
 cases h5 : ((n : Int) == 12) with
 | true =>
  have e : n = 12 := by have := eq_of_beq h5; omega
  subst e
  rw [show tbQ 12 k = ((k : Int) == 1) from (ibeq k 1).symm]
  exact Z
 | false =>
 have eh5 : n ≠ 12 := by have := ne_of_beq_false h5; omega
 refine Y ?_
 cases h6 : ((n : Int) == 13) with
 | true =>
  have e : n = 13 := by have := eq_of_beq h6; omega
  subst e
  rw [show tbQ 13 k = ((k : Int) == 1) from (ibeq k 1).symm]
  exact Z
 | false =>
 have eh6 : n ≠ 13 := by have := ne_of_beq_false h6; omega
 refine Y ?_
 cases h7 : ((n : Int) == 14) with
 | true =>
  have e : n = 14 := by have := eq_of_beq h7; omega
  subst e
  rw [show tbQ 14 k = ((k : Int) == 1) from (ibeq k 1).symm]
  exact Z
 | false =>
 have eh7 : n ≠ 14 := by have := ne_of_beq_false h7; omega
 refine Y ?_
 cases h8 : ((n : Int) == 1) with
 | true =>
  have e : n = 1 := by have := eq_of_beq h8; omega
  subst e
  rw [show tbQ 1 k = ((k : Int) == 2) from (ibeq k 2).symm]
  exact Z
 | false =>
 have eh8 : n ≠ 1 := by have := ne_of_beq_false h8; omega
 refine Y ?_
 cases h9 : ((n : Int) == 8) with
 | true =>
  have e : n = 8 := by have := eq_of_beq h9; omega
  subst e
  rw [show tbQ 8 k = ((k : Int) == 2) from (ibeq k 2).symm]
  exact Z
 | false =>
 have eh9 : n ≠ 8 := by have := ne_of_beq_false h9; omega
 refine Y ?_
 cases h10 : ((n : Int) == 9) with
 | true =>
  have e : n = 9 := by have := eq_of_beq h10; omega
  subst e
  rw [show tbQ 9 k = ((k : Int) == 2) from (ibeq k 2).symm]
  exact Z
 | false =>
 have eh10 : n ≠ 9 := by have := ne_of_beq_false h10; omega
 refine Y ?_
 cases h11 : ((n : Int) == 11) with
 | true =>
  have e : n = 11 := by have := eq_of_beq h11; omega
  subst e
  rw [show tbQ 11 k = ((k : Int) == 2) from (ibeq k 2).symm]
  exact Z
 | false =>
 have eh11 : n ≠ 11 := by have := ne_of_beq_false h11; omega
 refine Y ?_
 cases h12 : ((n : Int) == 6) with
 | true =>
  have e : n = 6 := by have := eq_of_beq h12; omega
  subst e
  rw [show tbQ 6 k = ((k : Int) == 0) from (ibeq k 0).symm]
  exact Z
 | false =>
 have eh12 : n ≠ 6 := by have := ne_of_beq_false h12; omega
 refine Y ?_
 cases h13 : ((n : Int) == 10) with
 | true =>
  have e : n = 10 := by have := eq_of_beq h13; omega
  subst e
  rw [show tbQ 10 k = ((k : Int) == 0) from (ibeq k 0).symm]
  exact Z
 | false =>
 have eh13 : n ≠ 10 := by have := ne_of_beq_false h13; omega
 refine Y ?_
 rw [show tbQ n k = false from by unfold tbQ; simp [eh0, eh1, eh2, eh3, eh4, eh5, eh6, eh7, eh8, eh9, eh10, eh11, eh12, eh13]]
 exact k's rfl
def Eh.wf (x : Eh) : Prop := (∀ k ∈ x.attrs, k.wf) ∧ x.start < 2 ^ 64 ∧ x.time < 2 ^ 64 ∧ x.count < 2 ^ 64 ∧ x.sum < 2 ^ 64 ∧ x.min < 2 ^ 64 ∧ x.max < 2 ^ 64 ∧ (-2147483648 ≤ x.scale ∧ x.scale < 2147483648) ∧ x.zero < 2 ^ 64 ∧ x.pos.wf ∧ x.neg.wf ∧ (∀ k ∈ x.exs, k.wf) ∧ x.flags < 4294967296 ∧ x.thr < 2 ^ 64
def Eh.sz (x : Eh) : Nat := 300 + Kv.szs x.attrs + x.pos.sz + x.neg.sz + (x.exs.map Em.sz).sum + x.u.length
def Eh.may (x : Eh) (d : Int) : Bool := decide (0 ≤ d) && (k'1c x.sumH x.sum && k'1c x.minH x.min && k'1c x.maxH x.max) && maySd x.posH x.pos (d - 1) && maySd x.negH x.neg (d - 1) && (x.exs.all fun k => k.may (d - 1)) && (x.attrs.all fun k => k.may (d - 1)) && k'1s tbQ x.u d
theorem Eh.hb_len (x : Eh) : x.mar.length + 20 ≤ x.sz := by
 have q0 := Kv.marsP_len 1 x.attrs
 have q1 := k'10 2 x.start
 have q2 := k'10 3 x.time
 have q3 := k'10 4 x.count
 have q4 := k'25 5 x.sumH x.sum
 have q5 := k'2a 6 (k'2v x.scale)
 have q6 := k'10 7 x.zero
 have q7 := sdV_len 8 x.posH x.pos
 have q8 := sdV_len 9 x.negH x.neg
 have q9 := k'2a 10 x.flags
 have q10 := k'40 11 x.exs fun y _ => Em.mar_len y
 have q11 := k'25 12 x.minH x.min
 have q12 := k'25 13 x.maxH x.max
 have q13 := k'10 14 x.thr
 unfold Eh.mar Eh.hb Eh.sz
 simp only [List.length_append]
 omega
theorem Eh.mar_len (x : Eh) : x.mar.length + 20 ≤ x.sz := Eh.hb_len x
theorem Eh.mars_lt {l : List Eh} (h : (l.map Eh.sz).sum < big) : ∀ s ∈ l.map Eh.mar, s.length < 2 ^ 64 := fun s hs => by
 obtain ⟨k, hk, rfl⟩ := List.mem_map.1 hs
 have h1 := Eh.mar_len k; have h2 := k'1h (sz := Eh.sz) hk
 unfold big at h; omega
theorem Eh.all {x : Eh} (h1 : x.sz < big) (h2 : x.wf) (d : Int) : all x.hb d = .ok x.hF := by
 unfold Eh.sz big at h1
 obtain ⟨w0, w1, w2, w3, w4, w5, w6, w7, w8, w9, w10, w11, w12, w13⟩ := h2
 exact k'2 (k'2 (k'2 (k'2 (k'2 (k'2 (k'2 (k'2 (k'2 (k'2 (k'2 (k'2 (k'2 (k'38 (by omega) (by omega) d (Kv.mars_lt (by unfold big; omega))) (k'4p (by omega) (by omega) d (by omega))) (k'4p (by omega) (by omega) d (by omega))) (k'4p (by omega) (by omega) d (by omega))) (all_op (by omega) (by omega) d _ (by omega))) (all_vr (by omega) (by omega) d (zig32_lt _ (by omega) (by omega)))) (k'4p (by omega) (by omega) d (by omega))) (all_sd 8 x.posH x.pos (by omega) (by omega) d (by unfold big; omega))) (all_sd 9 x.negH x.neg (by omega) (by omega) d (by unfold big; omega))) (all_vr (by omega) (by omega) d (by omega))) (k'38 (by omega) (by omega) d (Em.mars_lt (by unfold big; omega)))) (all_op (by omega) (by omega) d _ (by omega))) (all_op (by omega) (by omega) d _ (by omega))) (k'4p (by omega) (by omega) d (by omega))
theorem Eh.inn (x : Eh) : inT tbQ x.hF = true := by
 unfold Eh.hF
 simp only [k'3l, Bool.and_eq_true]
 exact ⟨⟨⟨⟨⟨⟨⟨⟨⟨⟨⟨⟨⟨in_ps 1 _ rfl, in_fx 2 x.start rfl⟩, in_fx 3 x.time rfl⟩, in_fx 4 x.count rfl⟩, in_op 5 x.sum _ rfl⟩, in_vr 6 (k'2v x.scale) rfl⟩, in_fx 7 x.zero rfl⟩, in_sd 8 x.posH x.pos rfl⟩, in_sd 9 x.negH x.neg rfl⟩, in_vr 10 x.flags rfl⟩, in_ps 11 _ rfl⟩, in_op 12 x.min _ rfl⟩, in_op 13 x.max _ rfl⟩, in_fx 14 x.thr rfl⟩
def tellEh (d : Int) (l : List Fld) : Option (List UInt8 → Eh) :=
 match k'3 (fun s => okK s (d - 1)) 1 l with
 | none => none
 | some attrs =>
 match k'3p (fun s => okB s (d - 1)) noBk 8 l with
 | none => none
 | some pos =>
 match k'3p (fun s => okB s (d - 1)) noBk 9 l with
 | none => none
 | some neg =>
 match k'3 (fun s => okEm s (d - 1)) 11 l with
 | none => none
 | some exs =>
 some fun u => ⟨attrs, (k'6 l 2).n, (k'6 l 3).n, (k'6 l 4).n, (hasL l 5), (k'6 l 5).n, (hasL l 12), (k'6 l 12).n, (hasL l 13), (k'6 l 13).n, zag32 (k'6 l 6).n, (k'6 l 7).n, pos.1, pos.2, neg.1, neg.2, exs, (k'6 l 10).n % 4294967296, (k'6 l 14).n, u⟩
def okEh (s : List UInt8) (d : Int) : Option Eh := apO (okG tbQ tellEh s d)
theorem Eh.tell {x : Eh} (hwf : x.wf) (h_sum : k'1c x.sumH x.sum = true) (h_min : k'1c x.minH x.min = true) (h_max : k'1c x.maxH x.max = true) (d : Int) : tellEh d x.hF = (
 match mapO (fun s => okK s (d - 1)) (Kv.mars x.attrs) with
 | none => none
 | some attrs =>
 match sdO x.posH x.pos (d - 1) with
 | none => none
 | some pos =>
 match sdO x.negH x.neg (d - 1) with
 | none => none
 | some neg =>
 match mapO (fun s => okEm s (d - 1)) ((x.exs.map Em.mar)) with
 | none => none
 | some exs =>
 some fun u => ⟨attrs, x.start, x.time, x.count, x.sumH, x.sum, x.minH, x.min, x.maxH, x.max, x.scale, x.zero, pos.1, pos.2, neg.1, neg.2, exs, x.flags, x.thr, u⟩) := by
 obtain ⟨w0, w1, w2, w3, w4, w5, w6, w7, w8, w9, w10, w11, w12, w13⟩ := hwf
 have sattrs : sel 1 x.hF = psF 1 (Kv.mars x.attrs) := by unfold Eh.hF; simp [k'b, k'w, k'p, k'v, k'l, k'j, sel_sd]
 have tattrs : ∀ {α : Type} (ok : List UInt8 → Option α), k'3 ok 1 x.hF = mapO ok (Kv.mars x.attrs) := fun ok => k'19 ok sattrs
 have sstart : sel 2 x.hF = fxF 2 x.start := by unfold Eh.hF; simp [k'b, k'w, k'p, k'v, k'l, k'j, sel_sd]
 have tstart : (k'6 x.hF 2).n = x.start := k'2t sstart
 have stime : sel 3 x.hF = fxF 3 x.time := by unfold Eh.hF; simp [k'b, k'w, k'p, k'v, k'l, k'j, sel_sd]
 have ttime : (k'6 x.hF 3).n = x.time := k'2t stime
 have scount : sel 4 x.hF = fxF 4 x.count := by unfold Eh.hF; simp [k'b, k'w, k'p, k'v, k'l, k'j, sel_sd]
 have tcount : (k'6 x.hF 4).n = x.count := k'2t scount
 have ssum : sel 5 x.hF = opF 5 x.sumH x.sum := by unfold Eh.hF; simp [k'b, k'w, k'p, k'v, k'l, k'j, sel_sd]
 have tsum := opt_of (by omega) ssum h_sum
 have smin : sel 12 x.hF = opF 12 x.minH x.min := by unfold Eh.hF; simp [k'b, k'w, k'p, k'v, k'l, k'j, sel_sd]
 have tmin := opt_of (by omega) smin h_min
 have smax : sel 13 x.hF = opF 13 x.maxH x.max := by unfold Eh.hF; simp [k'b, k'w, k'p, k'v, k'l, k'j, sel_sd]
 have tmax := opt_of (by omega) smax h_max
 have sscale : sel 6 x.hF = vrF 6 (k'2v x.scale) := by unfold Eh.hF; simp [k'b, k'w, k'p, k'v, k'l, k'j, sel_sd]
 have tscale : zag32 (k'6 x.hF 6).n = x.scale := last_zg w7.1 w7.2 sscale
 have szero : sel 7 x.hF = fxF 7 x.zero := by unfold Eh.hF; simp [k'b, k'w, k'p, k'v, k'l, k'j, sel_sd]
 have tzero : (k'6 x.hF 7).n = x.zero := k'2t szero
 have spos : sel 8 x.hF = sdF 8 x.posH x.pos := by unfold Eh.hF; simp [k'b, k'w, k'p, k'v, k'l, k'j, sel_sd]
 have tpos : ∀ e, k'3p (fun s => okB s e) noBk 8 x.hF = sdO x.posH x.pos e := fun e => part_sd e spos
 have sneg : sel 9 x.hF = sdF 9 x.negH x.neg := by unfold Eh.hF; simp [k'b, k'w, k'p, k'v, k'l, k'j, sel_sd]
 have tneg : ∀ e, k'3p (fun s => okB s e) noBk 9 x.hF = sdO x.negH x.neg e := fun e => part_sd e sneg
 have sexs : sel 11 x.hF = psF 11 (x.exs.map Em.mar) := by unfold Eh.hF; simp [k'b, k'w, k'p, k'v, k'l, k'j, sel_sd]
 have texs : ∀ {α : Type} (ok : List UInt8 → Option α), k'3 ok 11 x.hF = mapO ok ((x.exs.map Em.mar)) := fun ok => k'19 ok sexs
 have sflags : sel 10 x.hF = vrF 10 x.flags := by unfold Eh.hF; simp [k'b, k'w, k'p, k'v, k'l, k'j, sel_sd]
 have tflags : (k'6 x.hF 10).n % 4294967296 = x.flags := by rw [last_vr sflags]; omega
 have sthr : sel 14 x.hF = fxF 14 x.thr := by unfold Eh.hF; simp [k'b, k'w, k'p, k'v, k'l, k'j, sel_sd]
 have tthr : (k'6 x.hF 14).n = x.thr := k'2t sthr
 unfold tellEh
 simp only [tattrs, tstart, ttime, tcount, tsum.1, tsum.2, tmin.1, tmin.2, tmax.1, tmax.2, tscale, tzero, tpos, tneg, texs, tflags, tthr]
theorem Eh_back : Back okEh Eh.mar Eh.may (fun x => x.sz < big ∧ x.wf) := by
 intro d x hf hm
 obtain ⟨hbig, hwf⟩ := hf
 have hall := Eh.all hbig hwf
 have hwf0 := hwf
 have hbig' := hbig
 unfold Eh.sz big at hbig'
 obtain ⟨w_attrs, -, -, -, -, -, -, -, -, w_pos, w_neg, w_exs, -, -⟩ := hwf
 unfold Eh.may at hm
 simp only [Bool.and_eq_true, decide_eq_true_eq] at hm
 obtain ⟨⟨⟨⟨⟨⟨hd, ⟨⟨m_sum, m_min⟩, m_max⟩⟩, m_pos⟩, m_neg⟩, m_exs⟩, m_attrs⟩, hu⟩ := hm
 have htell := fun d => Eh.tell (x := x) hwf0 m_sum m_min m_max d
 obtain ⟨a_attrs, b_attrs⟩ := Kv_back.list (l := x.attrs) (d := d - 1) (fun k hk => ⟨by have := Kv.sz_mem hk; unfold big; omega, w_attrs k hk⟩) m_attrs
 simp only [← Kv.mars_map] at a_attrs b_attrs
 obtain ⟨a_pos, b_pos⟩ := sd_back x.posH x.pos (d - 1) ⟨by unfold big; omega, w_pos⟩ m_pos
 obtain ⟨a_neg, b_neg⟩ := sd_back x.negH x.neg (d - 1) ⟨by unfold big; omega, w_neg⟩ m_neg
 obtain ⟨a_exs, b_exs⟩ := Em_back.list (l := x.exs) (d := d - 1) (fun k hk => ⟨by have := k'1h (sz := Em.sz) hk; unfold big; omega, w_exs k hk⟩) m_exs
 constructor
 ·unfold okEh Eh.mar
  rw [k'z hd (hall d) x.inn hu, htell]
  simp only [a_attrs, a_pos, a_neg, a_exs]
  rfl
 ·intro e he hn
  unfold okEh Eh.mar
  cases hr : k'1s tbQ x.u e with
  | false => rw [k'k (hall e) he hu fun _ => hr]; rfl
  | true =>
   rcases Int.lt_or_le e 0 with h0 | h0
   ·rw [k'1z h0]; rfl
   ·rw [k'z h0 (hall e) x.inn hr, htell]
    cases h_attrs : (x.attrs.all fun k => k.may (e - 1))
    ·have := b_attrs (e - 1) (by omega) h_attrs
     simp only [this]
     rfl
    cases h_pos : maySd x.posH x.pos (e - 1)
    ·have := b_pos (e - 1) (by omega) h_pos
     simp only [this]
     all_goals (repeat' split) <;> rfl
    cases h_neg : maySd x.negH x.neg (e - 1)
    ·have := b_neg (e - 1) (by omega) h_neg
     simp only [this]
     all_goals (repeat' split) <;> rfl
    cases h_exs : (x.exs.all fun k => k.may (e - 1))
    ·have := b_exs (e - 1) (by omega) h_exs
     simp only [this]
     all_goals (repeat' split) <;> rfl
    exfalso
    unfold Eh.may at hn
    simp [h0, hr, m_sum, m_min, m_max, h_attrs, h_pos, h_neg, h_exs] at hn
theorem Eh_told : Told okEh Eh.may Eh.wf Eh.sz 1400 := by
 intro d s x h
 obtain ⟨f, u, h1, rfl⟩ := k'2f h
 obtain ⟨l, -, h2, -, h4, hd, hf, hw⟩ := k'2z h1
 dsimp only at h2 h4 hw
 unfold tellEh at h2
 split at h2
 ·simp at h2
 rename_i attrs g_attrs
 split at h2
 ·simp at h2
 rename_i pos g_pos
 split at h2
 ·simp at h2
 rename_i neg g_neg
 split at h2
 ·simp at h2
 rename_i exs g_exs
 injection h2 with h2
 subst h2
 obtain ⟨p_attrs, q_attrs, r_attrs⟩ := Kv_told.parts hf g_attrs
 obtain ⟨p_exs, q_exs, r_exs⟩ := Em_told.parts hf g_exs
 obtain ⟨p_pos, q_pos, r_pos⟩ := sd_told hf g_pos
 obtain ⟨p_neg, q_neg, r_neg⟩ := sd_told hf g_neg
 refine ⟨?_, ⟨q_attrs, k'17 hf 2, k'17 hf 3, k'17 hf 4, k'17 hf 5, k'17 hf 12, k'17 hf 13, zag32_lt _, k'17 hf 7, q_pos, q_neg, q_exs, Nat.mod_lt _ (by decide), k'17 hf 14⟩, ?_⟩
 ·unfold Eh.may
  simp only [Bool.and_eq_true]
  exact ⟨⟨⟨⟨⟨⟨decide_eq_true hd, (⟨⟨opt_told, opt_told⟩, opt_told⟩)⟩, p_pos⟩, p_neg⟩, p_exs⟩, p_attrs⟩, h4⟩
 ·unfold Eh.sz
  simp only [Kv.szs_sum]
  omega
def Eh.eq (x y : Eh) : Bool := Kv.eqs x.attrs y.attrs && x.start == y.start && x.time == y.time && x.count == y.count && (x.sumH == y.sumH && x.sum == y.sum) && (x.minH == y.minH && x.min == y.min) && (x.maxH == y.maxH && x.max == y.max) && x.scale == y.scale && x.zero == y.zero && x.posH == y.posH && x.pos.eq y.pos && x.negH == y.negH && x.neg.eq y.neg && Em.eqs x.exs y.exs && x.flags == y.flags && x.thr == y.thr && x.u == y.u
def Eh.eqs : List Eh → List Eh → Bool
 | [], [] => true
 | v :: l, w :: r => v.eq w && Eh.eqs l r
 | [], _ :: _ => false
 | _ :: _, [] => false
theorem Eh.eq_self (x : Eh) : x.eq x = true := by unfold Eh.eq; simp [Kv.eqs_self, Bk.eq_self, Em.eqs_self]
theorem Eh.eqs_self : ∀ l : List Eh, Eh.eqs l l = true
 | [] => rfl
 | v :: l => by unfold Eh.eqs; simp [Eh.eq_self v, Eh.eqs_self l]
theorem Eh.eqs_by (a b : List Eh) : Eh.eqs a b = (a.length == b.length && (List.range a.length).all (byI Eh.eq a b)) :=
 k'3n Eh.eq Eh.eqs rfl (fun _ _ _ _ => rfl) (fun _ _ => rfl) (fun _ _ => rfl) a b
end
