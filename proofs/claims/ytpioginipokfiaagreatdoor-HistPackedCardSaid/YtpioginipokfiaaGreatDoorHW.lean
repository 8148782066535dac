/- Hist: alike, may they be, written, read. -/
import Derived.Test.YtpioginipokfiaaGreatDoorHP
set_option linter.unusedSimpArgs false
set_option linter.unusedVariables false
set_option maxRecDepth 100000
namespace Go.Proofs.YtpioginipokfiaaGreatDoor
open Go Go.Abs
variable (B : Fr)
def Hi.d (x : Hi) : D := .agg [slD (Kv.ds x.attrs), .int .u64 x.start, .int .u64 x.time, .int .u64 x.count, .bool x.sumH, .int .u64 x.sum, .bool x.minH, .int .u64 x.min, .bool x.maxH, .int .u64 x.max, slD (x.counts.map uD), slD (x.bounds.map uD), slD (x.exs.map Em.d), .int .u32 x.flags, .str x.u]
def Hi.R (x : Hi) (a : D) : Prop := ∃ (z_attrs : Bool) (l_attrs : List D) (z_counts : Bool) (z_bounds : Bool) (z_exs : Bool) (l_exs : List D), a = .agg [.sl z_attrs l_attrs, .int .u64 x.start, .int .u64 x.time, .int .u64 x.count, .bool x.sumH, .int .u64 x.sum, .bool x.minH, .int .u64 x.min, .bool x.maxH, .int .u64 x.max, .sl z_counts (x.counts.map uD), .sl z_bounds (x.bounds.map uD), .sl z_exs l_exs, .int .u32 x.flags, .str x.u] ∧ Kv.Rs x.attrs l_attrs ∧ RsOf Em.R x.exs l_exs
def HiSh (x : D) : Prop := ∃ (a0 : Bool) (a1 : List D) (a2 : Nat) (a3 : Nat) (a4 : Nat) (a5 : Bool) (a6 : Nat) (a7 : Bool) (a8 : Nat) (a9 : Bool) (a10 : Nat) (a11 : Bool) (a12 : List D) (a13 : Bool) (a14 : List D) (a15 : Bool) (a16 : List D) (a17 : Nat) (a18 : List UInt8), x = .agg [.sl a0 a1, .int .u64 a2, .int .u64 a3, .int .u64 a4, .bool a5, .int .u64 a6, .bool a7, .int .u64 a8, .bool a9, .int .u64 a10, .sl a11 a12, .sl a13 a14, .sl a15 a16, .int .u32 a17, .str a18]
theorem Hi.R_sh {x : Hi} {a : D} (h : x.R a) : HiSh a := by
 obtain ⟨z_attrs, l_attrs, z_counts, z_bounds, z_exs, l_exs, h, -⟩ := h
 exact ⟨_, _, _, _, _, _, _, _, _, _, _, _, _, _, _, _, _, _, _, h⟩
theorem Hi.d_R (x : Hi) : x.R x.d := ⟨_, _, _, _, _, _, rfl, Kv.ds_R _, RsOf.map Em.d_R _⟩
theorem Hi.Rs_sh {l : List Hi} {xs : List D} (h : RsOf Hi.R l xs) : ∀ x ∈ xs, HiSh x := fun x hx => by
 obtain ⟨v, -, r⟩ := h.mem hx
 exact Hi.R_sh r
theorem Hi_May_calls (x : Hi) (xa : D) (d : Int) (hbig : x.sz < big) (hx : x.R xa) (hd1 : -9223372036854775808 ≤ d) (hd2 : d < 9223372036854775808) : k'0 (cx B) 12 [.d xa, .d (.int .i64 d)] [] (.d (.bool (x.may d))) [] := by
 obtain ⟨z_attrs, l_attrs, z_counts, z_bounds, z_exs, l_exs, rfl, r_attrs, r_exs⟩ := hx
 unfold Hi.sz at hbig
 unfold Hi.may
 by_cases hd0 : 0 ≤ d
 rotate_left
 ·rw [show decide (0 ≤ d) = false from decide_eq_false hd0]
  refine l_bw Tryz.func12 0 [] ?_
  rw [show decide (d ≥ 0) = false from decide_eq_false hd0]
  exact Z
 have c_u := k'23 B 24 tbH (tbH_calls B) x.u d (by omega) (by omega) hd2
 have c_opts := MayOpt3_calls B x.sumH x.sum x.minH x.min x.maxH x.max
 have c_exs := All_Em_R B z_exs d (by omega) hd0 hd2 r_exs
 have c_attrs := MayKeys_calls B (a := x.attrs) z_attrs (d - 1) (by omega) (by omega) (by omega) r_attrs
 refine l_bw Tryz.func12 0 [] ?_
 rw [show decide (d ≥ 0) = decide (0 ≤ d) from rfl]
 cases e0 : (decide (0 ≤ d))
 ·exact Z
 refine Y ?_
 (first | refine l_stepG (.buildSlice (es := [.agg [.bool x.sumH, .int .u64 x.sum], .agg [.bool x.minH, .int .u64 x.min], .agg [.bool x.maxH, .int .u64 x.max]]) rfl rfl rfl rfl rfl rfl (by intro x hx; simp at hx; rcases hx with rfl | rfl | rfl <;> rfl) (by simp) (by decide) (by decide)) rfl rfl rfl rfl ?_ | refine k'2 (.buildSlice (es := [.agg [.bool x.sumH, .int .u64 x.sum], .agg [.bool x.minH, .int .u64 x.min], .agg [.bool x.maxH, .int .u64 x.max]]) rfl rfl rfl rfl rfl rfl (by intro x hx; simp at hx; rcases hx with rfl | rfl | rfl <;> rfl) (by simp) (by decide) (by decide)) rfl rfl ?_)
 refine Y ?_
 refine l_cGw [] (c_opts) rfl rfl rfl rfl rfl ?_
 cases e1 : (k'q x.sumH x.sum && k'q x.minH x.min && k'q x.maxH x.max)
 ·exact Z
 refine Y ?_
 refine l_cGw [] (c_exs) rfl rfl rfl rfl rfl ?_
 cases e2 : (x.exs.all fun k => k.may (d - 1))
 ·exact Z
 refine Y ?_
 rw [k'1d 1 (by omega) (by omega) (by omega) hd2]
 refine l_cGw [] (c_attrs) rfl rfl rfl rfl rfl ?_
 cases e3 : (x.attrs.all fun k => k.may (d - 1))
 ·exact Z
 refine Y ?_
 refine k'g [] (c_u) rfl rfl rfl rfl rfl ?_
 exact Z
theorem k'k (x : Hi) (xa : D) (d : Int) (hbig : x.sz < big) (hwf : x.wf) (hx : x.R xa) (hd1 : -9223372036854775808 ≤ d) (hd2 : d < 9223372036854775808) : k'0 (cx B) 6 [.d xa, .d (.int .i64 d)] [] (if x.may d then .tup [sT x.mar, .d .nili] else .tup [sT [], .d (Er.code 8).d]) [] := by
 have hm := Hi_May_calls B x xa d hbig hx hd1 hd2
 have hlen := Hi.mar_len x
 have hlen : x.mar.length < big := by omega
 obtain ⟨z_attrs, l_attrs, z_counts, z_bounds, z_exs, l_exs, rfl, r_attrs, r_exs⟩ := hx
 unfold Hi.sz at hbig
 cases hc : x.may d
 ·rw [hc] at hm
  refine l_bw Tryz.func6 0 [] ?_
  refine k'1 [] (hm) rfl rfl rfl ?_
  exact Z
 rw [hc] at hm
 have hc' := hc
 unfold Hi.may at hc'
 simp only [Bool.and_eq_true, decide_eq_true_eq] at hc'
 obtain ⟨⟨⟨⟨hd, ⟨⟨m_sum, m_min⟩, m_max⟩⟩, m_exs⟩, m_attrs⟩, hu⟩ := hc'
 obtain ⟨w_attrs, w_start, w_time, w_count, w_sum, w_min, w_max, w_counts, w_bounds, w_exs, w_flags⟩ := hwf
 unfold Hi.mar Hi.hb at hlen ⊢
 obtain ⟨a0, ha0, c0⟩ := wr_fixed B 2 x.start (by omega) (by omega) (.nw 52 2) [] nw_ok (by simp only [List.length_append, List.length_nil] at hlen ⊢; omega)
 rw [List.nil_append] at c0
 obtain ⟨a1, ha1, c1⟩ := wr_fixed B 3 x.time (by omega) (by omega) (a0) (fxV 2 x.start) ha0 (by simp only [List.length_append, List.length_nil] at hlen ⊢; omega)
 obtain ⟨a2, ha2, c2⟩ := wr_fixed B 4 x.count (by omega) (by omega) (a1) (fxV 2 x.start ++ fxV 3 x.time) ha1 (by simp only [List.length_append, List.length_nil] at hlen ⊢; omega)
 obtain ⟨a3, ha3, c3⟩ := wr_opt B x.sumH 5 x.sum (by omega) (by omega) (a2) (fxV 2 x.start ++ fxV 3 x.time ++ fxV 4 x.count) ha2 (by simp only [List.length_append, List.length_nil] at hlen ⊢; omega)
 obtain ⟨a4, ha4, c4⟩ := wr_fixeds B z_counts 6 x.counts (by omega) (by omega) (by unfold big at hbig; omega) (a3) (fxV 2 x.start ++ fxV 3 x.time ++ fxV 4 x.count ++ opV 5 x.sumH x.sum) ha3 (by simp only [List.length_append, List.length_nil] at hlen ⊢; omega)
 obtain ⟨a5, ha5, c5⟩ := wr_fixeds B z_bounds 7 x.bounds (by omega) (by omega) (by unfold big at hbig; omega) (a4) (fxV 2 x.start ++ fxV 3 x.time ++ fxV 4 x.count ++ opV 5 x.sumH x.sum ++ pwV 6 x.counts) ha4 (by simp only [List.length_append, List.length_nil] at hlen ⊢; omega)
 obtain ⟨a6, ha6, c6⟩ := Parts_Em_R B 8 (by omega) (by omega) z_exs d (by omega) w_exs m_exs hd hd2 r_exs (a5) (fxV 2 x.start ++ fxV 3 x.time ++ fxV 4 x.count ++ opV 5 x.sumH x.sum ++ pwV 6 x.counts ++ pwV 7 x.bounds) ha5 (by simp only [List.length_append, List.length_nil] at hlen ⊢; omega)
 obtain ⟨a7, ha7, c7⟩ := PartsK_wr B 9 (by omega) (by omega) z_attrs d (by omega) w_attrs m_attrs hd hd2 r_attrs (a6) (fxV 2 x.start ++ fxV 3 x.time ++ fxV 4 x.count ++ opV 5 x.sumH x.sum ++ pwV 6 x.counts ++ pwV 7 x.bounds ++ psV 8 (x.exs.map Em.mar)) ha6 (by simp only [List.length_append, List.length_nil] at hlen ⊢; omega)
 obtain ⟨a8, ha8, c8⟩ := wr_var B 10 x.flags (by omega) (by omega) (by omega) (a7) (fxV 2 x.start ++ fxV 3 x.time ++ fxV 4 x.count ++ opV 5 x.sumH x.sum ++ pwV 6 x.counts ++ pwV 7 x.bounds ++ psV 8 (x.exs.map Em.mar) ++ psV 9 (Kv.mars x.attrs)) ha7 (by simp only [List.length_append, List.length_nil] at hlen ⊢; omega)
 obtain ⟨a9, ha9, c9⟩ := wr_opt B x.minH 11 x.min (by omega) (by omega) (a8) (fxV 2 x.start ++ fxV 3 x.time ++ fxV 4 x.count ++ opV 5 x.sumH x.sum ++ pwV 6 x.counts ++ pwV 7 x.bounds ++ psV 8 (x.exs.map Em.mar) ++ psV 9 (Kv.mars x.attrs) ++ vrV 10 x.flags) ha8 (by simp only [List.length_append, List.length_nil] at hlen ⊢; omega)
 obtain ⟨a10, ha10, c10⟩ := wr_opt B x.maxH 12 x.max (by omega) (by omega) (a9) (fxV 2 x.start ++ fxV 3 x.time ++ fxV 4 x.count ++ opV 5 x.sumH x.sum ++ pwV 6 x.counts ++ pwV 7 x.bounds ++ psV 8 (x.exs.map Em.mar) ++ psV 9 (Kv.mars x.attrs) ++ vrV 10 x.flags ++ opV 11 x.minH x.min) ha9 (by simp only [List.length_append, List.length_nil] at hlen ⊢; omega)
 obtain ⟨cu, cs⟩ := wr_end B (s := x.u) ha10 (l := fxV 2 x.start ++ fxV 3 x.time ++ fxV 4 x.count ++ opV 5 x.sumH x.sum ++ pwV 6 x.counts ++ pwV 7 x.bounds ++ psV 8 (x.exs.map Em.mar) ++ psV 9 (Kv.mars x.attrs) ++ vrV 10 x.flags ++ opV 11 x.minH x.min ++ opV 12 x.maxH x.max) (by simp only [List.length_append] at hlen ⊢; omega)
 generalize fxV 2 x.start ++ fxV 3 x.time ++ fxV 4 x.count ++ opV 5 x.sumH x.sum ++ pwV 6 x.counts ++ pwV 7 x.bounds ++ psV 8 (x.exs.map Em.mar) ++ psV 9 (Kv.mars x.attrs) ++ vrV 10 x.flags ++ opV 11 x.minH x.min ++ opV 12 x.maxH x.max = o10 at c10 cu cs ⊢
 generalize fxV 2 x.start ++ fxV 3 x.time ++ fxV 4 x.count ++ opV 5 x.sumH x.sum ++ pwV 6 x.counts ++ pwV 7 x.bounds ++ psV 8 (x.exs.map Em.mar) ++ psV 9 (Kv.mars x.attrs) ++ vrV 10 x.flags ++ opV 11 x.minH x.min = o9 at c9 c10
 generalize fxV 2 x.start ++ fxV 3 x.time ++ fxV 4 x.count ++ opV 5 x.sumH x.sum ++ pwV 6 x.counts ++ pwV 7 x.bounds ++ psV 8 (x.exs.map Em.mar) ++ psV 9 (Kv.mars x.attrs) ++ vrV 10 x.flags = o8 at c8 c9
 generalize fxV 2 x.start ++ fxV 3 x.time ++ fxV 4 x.count ++ opV 5 x.sumH x.sum ++ pwV 6 x.counts ++ pwV 7 x.bounds ++ psV 8 (x.exs.map Em.mar) ++ psV 9 (Kv.mars x.attrs) = o7 at c7 c8
 generalize fxV 2 x.start ++ fxV 3 x.time ++ fxV 4 x.count ++ opV 5 x.sumH x.sum ++ pwV 6 x.counts ++ pwV 7 x.bounds ++ psV 8 (x.exs.map Em.mar) = o6 at c6 c7
 generalize fxV 2 x.start ++ fxV 3 x.time ++ fxV 4 x.count ++ opV 5 x.sumH x.sum ++ pwV 6 x.counts ++ pwV 7 x.bounds = o5 at c5 c6
 generalize fxV 2 x.start ++ fxV 3 x.time ++ fxV 4 x.count ++ opV 5 x.sumH x.sum ++ pwV 6 x.counts = o4 at c4 c5
 generalize fxV 2 x.start ++ fxV 3 x.time ++ fxV 4 x.count ++ opV 5 x.sumH x.sum = o3 at c3 c4
 generalize fxV 2 x.start ++ fxV 3 x.time ++ fxV 4 x.count = o2 at c2 c3
 generalize fxV 2 x.start ++ fxV 3 x.time = o1 at c1 c2
 generalize fxV 2 x.start = o0 at c0 c1
 refine l_bw Tryz.func6 0 [] ?_
 refine l_cw [] (hm) rfl rfl rfl ?_
 refine l_wr [1] (c0) nw_ok ha0 ?_
 refine l_wr [1] (c1) ha0 ha1 ?_
 refine l_wr [1] (c2) ha1 ha2 ?_
 refine l_wr [1] (c3) ha2 ha3 ?_
 refine l_wr [1] (c4) ha3 ha4 ?_
 refine l_wr [1] (c5) ha4 ha5 ?_
 refine l_wr [1] (c6) ha5 ha6 ?_
 refine l_wr [1] (c7) ha6 ha7 ?_
 rw [show IntKind.u64.wrap (x.flags : Int) = (x.flags : Int) by rw [IntKind.wrap_u64]; omega]
 refine l_wr [1] (c8) ha7 ha8 ?_
 refine l_wr [1] (c9) ha8 ha9 ?_
 refine l_wr [1] (c10) ha9 ha10 ?_
 refine l_wr [1] (cu) ha10 (.inl rfl) ?_
 refine k'18 [1] (cs) rfl rfl rfl rfl rfl rfl rfl (by decide) (by simp [k'3 (.inl rfl)]) rfl rfl rfl rfl ?_
 exact Z
theorem okHi_rd (s : List UInt8) (d : Int) : okHi s d = (match k'w s d, k'a (fun s => okK s (d - 1)) 9 (knB tbH s d), k'13 fixs 6 (knB tbH s d), k'13 fixs 7 (knB tbH s d), k'a (fun s => okEm s (d - 1)) 8 (knB tbH s d) with
 | none, some attrs, some counts, some bounds, some exs => some ⟨attrs, (k'e (knB tbH s d) 2).n, (k'e (knB tbH s d) 3).n, (k'e (knB tbH s d) 4).n, (hasL (knB tbH s d) 5), (k'e (knB tbH s d) 5).n, (hasL (knB tbH s d) 11), (k'e (knB tbH s d) 11).n, (hasL (knB tbH s d) 12), (k'e (knB tbH s d) 12).n, counts, bounds, exs, (k'e (knB tbH s d) 10).n % 4294967296, unB tbH s d⟩
 | _, _, _, _, _ => none) := by
 unfold okHi
 rw [okG_rd]
 cases k'w s d with
 | some e => rfl
 | none =>
  unfold tellHi
  simp only
  cases k'a (fun s => okK s (d - 1)) 9 (knB tbH s d) with
  | none => rfl
  | some attrs =>
   cases k'13 fixs 6 (knB tbH s d) with
   | none => rfl
   | some counts =>
    cases k'13 fixs 7 (knB tbH s d) with
    | none => rfl
    | some bounds =>
     cases k'a (fun s => okEm s (d - 1)) 8 (knB tbH s d) with
     | none => rfl
     | some exs =>
      rfl
theorem Hi_read (hB : BOk B) (s : List UInt8) (d : Int) (hl : s.length < big) (hd1 : -9223372036854775808 ≤ d) (hd2 : d < 9223372036854775808) :
  RdZ B 7 Hi.d noHi (okHi s d) s d ∧ (∀ e0, k'w s d = some e0 → k'0 (cx B) 7 [sT s, .d (.int .i64 d)] [] (.tup [.d noHi.d, .d e0.d]) []) := by
 have h1 := k'1c B hB 24 tbH (tbH_calls B) s d hl hd1 hd2
 have hk : LOk (knB tbH s d) := k'm tbH s d hl
 have hm := lok_most hk
 obtain ⟨vs_attrs, e1, c_attrs, t1⟩ := k'1l B hB (fun s => okK s (d - 1)) Kv.sh noKV 26 [] (k'w s d) (unB tbH s d) d s.length (knB tbH s d) 9 hk (fun h => by have := kn_pos h; omega) hd2 (fun x hx hn => k'2c B hB x.s (d - 1) (lok_s hk hx) (by have := kn_pos2 hx; omega) (by omega))
 obtain ⟨vs_counts, e2, c_counts, t2⟩ := rFixeds_tells B hB e1 (unB tbH s d) d s.length (knB tbH s d) 6 hk
 obtain ⟨vs_bounds, e3, c_bounds, t3⟩ := rFixeds_tells B hB e2 (unB tbH s d) d s.length (knB tbH s d) 7 hk
 obtain ⟨vs_exs, e4, c_exs, t4⟩ := List_Em_tells B hB (fun s => okEm s (d - 1)) id noEm 31 [] e3 (unB tbH s d) d s.length (knB tbH s d) 8 hk (fun h => by have := kn_pos h; omega) hd2 (fun x hx hn => (Em_read B hB x.s (d - 1) (lok_s hk hx) (by have := kn_pos2 hx; omega) (by omega)).1.at)
 have hein : ∀ x, e4 = some x → EIn s.length x := t4.ein (t3.ein (t2.ein (t1.ein (fun x hx => k'26 hx))))
 have main : k'0 (cx B) 7 [sT s, .d (.int .i64 d)] [] (.tup [.d (orD e4 (.agg [slD (vs_attrs.map KVs.d), .int .u64 (k'e (knB tbH s d) 2).n, .int .u64 (k'e (knB tbH s d) 3).n, .int .u64 (k'e (knB tbH s d) 4).n, .bool (hasL (knB tbH s d) 5), .int .u64 (k'e (knB tbH s d) 5).n, .bool (hasL (knB tbH s d) 11), .int .u64 (k'e (knB tbH s d) 11).n, .bool (hasL (knB tbH s d) 12), .int .u64 (k'e (knB tbH s d) 12).n, slD (vs_counts.map uD), slD (vs_bounds.map uD), slD (vs_exs.map Em.d), .int .u32 ((k'e (knB tbH s d) 10).n % 4294967296 : Nat), .str (unB tbH s d)]) noHi.d), .d (eD e4)]) [] := by
  clear hein t1 t2 t3 t4
  refine l_bw Tryz.func7 0 [] ?_
  refine l_cw [] (h1) rfl rfl rfl ?_
  refine x_tail (i0 := 28) (z := 29) (t0 := 7) rfl (by decide) rfl rfl rfl rfl rfl rfl rfl rfl rfl rfl ?_
  refine Y ?_
  refine x_cw [1] (c_attrs) rfl rfl rfl ?_
  refine x_cw [1] (k'1b B e1 (unB tbH s d) d s.length (knB tbH s d) 2 hm) rfl rfl rfl ?_
  refine x_cw [1] (k'1b B e1 (unB tbH s d) d s.length (knB tbH s d) 3 hm) rfl rfl rfl ?_
  refine x_cw [1] (k'1b B e1 (unB tbH s d) d s.length (knB tbH s d) 4 hm) rfl rfl rfl ?_
  refine x_cw [1] (Opt_calls B e1 (unB tbH s d) d s.length (knB tbH s d) 5 hm) rfl rfl rfl ?_
  refine x_cw [1] (Opt_calls B e1 (unB tbH s d) d s.length (knB tbH s d) 11 hm) rfl rfl rfl ?_
  refine x_cw [1] (Opt_calls B e1 (unB tbH s d) d s.length (knB tbH s d) 12 hm) rfl rfl rfl ?_
  refine x_cw [1] (c_counts) rfl rfl rfl ?_
  refine x_cw [1] (c_bounds) rfl rfl rfl ?_
  refine x_cw [1] (c_exs) rfl rfl rfl ?_
  refine x_cw [1] (k'1b B e4 (unB tbH s d) d s.length (knB tbH s d) 10 hm) rfl rfl rfl ?_
  rw [u32w]
  cases e4 with
  | none =>
   exact Z
  | some er =>
   cases er <;> (
   exact Z)
 constructor
 ·rw [okHi_rd]
  cases e4 with
  | none =>
   obtain ⟨k3, a_exs, g_exs, v_exs⟩ := t4.ok
   subst k3
   obtain ⟨k2, a_bounds, g_bounds, v_bounds⟩ := t3.ok
   subst k2
   obtain ⟨k1, a_counts, g_counts, v_counts⟩ := t2.ok
   subst k1
   obtain ⟨k0, a_attrs, g_attrs, v_attrs⟩ := t1.ok
   rw [k0, g_attrs, g_counts, g_bounds, g_exs]
   subst v_attrs
   simp only [id_eq] at v_counts
   subst v_counts
   simp only [id_eq] at v_bounds
   subst v_bounds
   rw [List.map_id] at v_exs
   subst v_exs
   rw [ks_map a_attrs] at main
   exact main
  | some er =>
   have hno : (match k'w s d, k'a (fun s => okK s (d - 1)) 9 (knB tbH s d), k'13 fixs 6 (knB tbH s d), k'13 fixs 7 (knB tbH s d), k'a (fun s => okEm s (d - 1)) 8 (knB tbH s d) with
    | none, some attrs, some counts, some bounds, some exs => some (⟨attrs, (k'e (knB tbH s d) 2).n, (k'e (knB tbH s d) 3).n, (k'e (knB tbH s d) 4).n, (hasL (knB tbH s d) 5), (k'e (knB tbH s d) 5).n, (hasL (knB tbH s d) 11), (k'e (knB tbH s d) 11).n, (hasL (knB tbH s d) 12), (k'e (knB tbH s d) 12).n, counts, bounds, exs, (k'e (knB tbH s d) 10).n % 4294967296, unB tbH s d⟩ : Hi)
    | _, _, _, _, _ => none) = none := by
    cases hr : k'w s d with
    | some x => rfl
    | none =>
     rw [hr] at t1
     cases hp0 : k'a (fun s => okK s (d - 1)) 9 (knB tbH s d) with
     | none => rfl
     | some a0 =>
      rw [hp0] at t1
      obtain ⟨-, q0⟩ := t1.get
      subst q0
      cases hp1 : k'13 fixs 6 (knB tbH s d) with
      | none => split <;> simp_all
      | some a1 =>
       rw [hp1] at t2
       obtain ⟨-, q1⟩ := t2.get
       subst q1
       cases hp2 : k'13 fixs 7 (knB tbH s d) with
       | none => split <;> simp_all
       | some a2 =>
        rw [hp2] at t3
        obtain ⟨-, q2⟩ := t3.get
        subst q2
        cases hp3 : k'a (fun s => okEm s (d - 1)) 8 (knB tbH s d) with
        | none => split <;> simp_all
        | some a3 =>
         rw [hp3] at t4
         have := t4.get.2; simp at this
   rw [hno]
   exact ⟨er, hein er rfl, main⟩
 ·intro e0 he
  rw [he] at t1
  have k1 := t1.keep
  subst k1
  have k2 := t2.keep
  subst k2
  have k3 := t3.keep
  subst k3
  have k4 := t4.keep
  subst k4
  exact main
