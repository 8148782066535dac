/- Exemplar: alike, may they be, written, read. -/
import Derived.Test.YtpioginipokfiaaGreatDoorEP
set_option linter.unusedSimpArgs false
set_option linter.unusedVariables false
set_option maxRecDepth 100000
namespace Go.Proofs.YtpioginipokfiaaGreatDoor
open Go Go.Abs
variable (B : Fr)
def Em.d (x : Em) : D := .agg [slD (Kv.ds x.attrs), .int .u64 x.time, .int .i64 x.kind, .int .u64 x.n, .str x.span, .str x.trace, .str x.u]
def Em.R (x : Em) (a : D) : Prop := ∃ (z_attrs : Bool) (l_attrs : List D), a = .agg [.sl z_attrs l_attrs, .int .u64 x.time, .int .i64 x.kind, .int .u64 x.n, .str x.span, .str x.trace, .str x.u] ∧ Kv.Rs x.attrs l_attrs
def EmSh (x : D) : Prop := ∃ (a0 : Bool) (a1 : List D) (a2 : Nat) (a3 : Int) (a4 : Nat) (a5 : List UInt8) (a6 : List UInt8) (a7 : List UInt8), x = .agg [.sl a0 a1, .int .u64 a2, .int .i64 a3, .int .u64 a4, .str a5, .str a6, .str a7]
theorem Em.R_sh {x : Em} {a : D} (h : x.R a) : EmSh a := by
 obtain ⟨z_attrs, l_attrs, h, -⟩ := h
 exact ⟨_, _, _, _, _, _, _, _, h⟩
theorem Em.d_R (x : Em) : x.R x.d := ⟨_, _, rfl, Kv.ds_R _⟩
theorem Em.Rs_sh {l : List Em} {xs : List D} (h : RsOf Em.R l xs) : ∀ x ∈ xs, EmSh x := fun x hx => by
 obtain ⟨v, -, r⟩ := h.mem hx
 exact Em.R_sh r
theorem Em_May_calls (x : Em) (xa : D) (d : Int) (hbig : x.sz < big) (hx : x.R xa) (hd1 : -9223372036854775808 ≤ d) (hd2 : d < 9223372036854775808) : k'0 (cx B) 45 [.d xa, .d (.int .i64 d)] [] (.d (.bool (x.may d))) [] := by
 obtain ⟨z_attrs, l_attrs, rfl, r_attrs⟩ := hx
 unfold Em.sz at hbig
 unfold Em.may
 by_cases hd0 : 0 ≤ d
 rotate_left
 ·rw [show decide (0 ≤ d) = false from decide_eq_false hd0]
  refine l_bw Tryz.func45 0 [] ?_
  rw [show decide (d ≥ 0) = false from decide_eq_false hd0]
  exact Z
 have c_u := k'23 B 69 tbE (tbE_calls B) x.u d (by omega) (by omega) hd2
 have c_kn := MayNumber_calls B x.kind x.n
 have c_attrs := MayKeys_calls B (a := x.attrs) z_attrs (d - 1) (by omega) (by omega) (by omega) r_attrs
 refine l_bw Tryz.func45 0 [] ?_
 rw [show decide (d ≥ 0) = decide (0 ≤ d) from rfl]
 cases e0 : (decide (0 ≤ d))
 ·exact Z
 refine Y ?_
 refine l_cGw [] (c_kn) rfl rfl rfl rfl rfl ?_
 cases e1 : (mayNum x.kind x.n)
 ·exact Z
 refine Y ?_
 rw [k'1d 1 (by omega) (by omega) (by omega) hd2]
 refine l_cGw [] (c_attrs) rfl rfl rfl rfl rfl ?_
 cases e2 : (x.attrs.all fun k => k.may (d - 1))
 ·exact Z
 refine Y ?_
 refine k'g [] (c_u) rfl rfl rfl rfl rfl ?_
 exact Z
theorem All_Em_calls : AllP B 44 EmSh := All_of B (All1_mk B Tryz.func84) (IndexF_mk B Tryz.func118) (Cont_mk B Tryz.func83) (Allc_mk B Tryz.func44)
theorem All_Em_R : AllRP B 44 45 Em.R Em.sz Em.may := All_R B (All_Em_calls B) Em.Rs_sh (fun x => by unfold Em.sz; omega) (Em_May_calls B)
theorem Em_Marshal_calls (x : Em) (xa : D) (d : Int) (hbig : x.sz < big) (hwf : x.wf) (hx : x.R xa) (hd1 : -9223372036854775808 ≤ d) (hd2 : d < 9223372036854775808) : k'0 (cx B) 17 [.d xa, .d (.int .i64 d)] [] (if x.may d then .tup [sT x.mar, .d .nili] else .tup [sT [], .d (Er.code 8).d]) [] := by
 have hm := Em_May_calls B x xa d hbig hx hd1 hd2
 have hlen := Em.mar_len x
 have hlen : x.mar.length < big := by omega
 obtain ⟨z_attrs, l_attrs, rfl, r_attrs⟩ := hx
 unfold Em.sz at hbig
 cases hc : x.may d
 ·rw [hc] at hm
  refine l_bw Tryz.func17 0 [] ?_
  refine k'1 [] (hm) rfl rfl rfl ?_
  exact Z
 rw [hc] at hm
 have hc' := hc
 unfold Em.may at hc'
 simp only [Bool.and_eq_true, decide_eq_true_eq] at hc'
 obtain ⟨⟨⟨hd, m_kn⟩, m_attrs⟩, hu⟩ := hc'
 obtain ⟨w_attrs, w_time, w_n⟩ := hwf
 unfold Em.mar Em.hb at hlen ⊢
 obtain ⟨a0, ha0, c0⟩ := wr_fixed B 2 x.time (by omega) (by omega) (.nw 52 2) [] nw_ok (by simp only [List.length_append, List.length_nil] at hlen ⊢; omega)
 rw [List.nil_append] at c0
 obtain ⟨a1, ha1, c1⟩ := wr_either B (x.kind == 1) 3 x.n (by omega) (by omega) (a0) (fxV 2 x.time) ha0 (by simp only [List.length_append, List.length_nil] at hlen ⊢; omega)
 obtain ⟨a2, ha2, c2⟩ := wr_text B 4 x.span (by omega) (by omega) (a1) (fxV 2 x.time ++ opV 3 (x.kind == 1) x.n) ha1 (by simp only [List.length_append, List.length_nil] at hlen ⊢; omega)
 obtain ⟨a3, ha3, c3⟩ := wr_text B 5 x.trace (by omega) (by omega) (a2) (fxV 2 x.time ++ opV 3 (x.kind == 1) x.n ++ txV 4 x.span) ha2 (by simp only [List.length_append, List.length_nil] at hlen ⊢; omega)
 obtain ⟨a4, ha4, c4⟩ := wr_either B (x.kind == 2) 6 x.n (by omega) (by omega) (a3) (fxV 2 x.time ++ opV 3 (x.kind == 1) x.n ++ txV 4 x.span ++ txV 5 x.trace) ha3 (by simp only [List.length_append, List.length_nil] at hlen ⊢; omega)
 obtain ⟨a5, ha5, c5⟩ := PartsK_wr B 7 (by omega) (by omega) z_attrs d (by omega) w_attrs m_attrs hd hd2 r_attrs (a4) (fxV 2 x.time ++ opV 3 (x.kind == 1) x.n ++ txV 4 x.span ++ txV 5 x.trace ++ opV 6 (x.kind == 2) x.n) ha4 (by simp only [List.length_append, List.length_nil] at hlen ⊢; omega)
 obtain ⟨cu, cs⟩ := wr_end B (s := x.u) ha5 (l := fxV 2 x.time ++ opV 3 (x.kind == 1) x.n ++ txV 4 x.span ++ txV 5 x.trace ++ opV 6 (x.kind == 2) x.n ++ psV 7 (Kv.mars x.attrs)) (by simp only [List.length_append] at hlen ⊢; omega)
 generalize fxV 2 x.time ++ opV 3 (x.kind == 1) x.n ++ txV 4 x.span ++ txV 5 x.trace ++ opV 6 (x.kind == 2) x.n ++ psV 7 (Kv.mars x.attrs) = o5 at c5 cu cs ⊢
 generalize fxV 2 x.time ++ opV 3 (x.kind == 1) x.n ++ txV 4 x.span ++ txV 5 x.trace ++ opV 6 (x.kind == 2) x.n = o4 at c4 c5
 generalize fxV 2 x.time ++ opV 3 (x.kind == 1) x.n ++ txV 4 x.span ++ txV 5 x.trace = o3 at c3 c4
 generalize fxV 2 x.time ++ opV 3 (x.kind == 1) x.n ++ txV 4 x.span = o2 at c2 c3
 generalize fxV 2 x.time ++ opV 3 (x.kind == 1) x.n = o1 at c1 c2
 generalize fxV 2 x.time = o0 at c0 c1
 refine l_bw Tryz.func17 0 [] ?_
 refine l_cw [] (hm) rfl rfl rfl ?_
 refine l_wr [1] (c0) nw_ok ha0 ?_
 refine l_wr [1] (c1) ha0 ha1 ?_
 refine l_wr [1] (c2) ha1 ha2 ?_
 refine l_wr [1] (c3) ha2 ha3 ?_
 refine l_wr [1] (c4) ha3 ha4 ?_
 refine l_wr [1] (c5) ha4 ha5 ?_
 refine l_wr [1] (cu) ha5 (.inl rfl) ?_
 refine k'18 [1] (cs) rfl rfl rfl rfl rfl rfl rfl (by decide) (by simp [k'3 (.inl rfl)]) rfl rfl rfl rfl ?_
 exact Z
theorem Parts_Em_wr : PartsP B 16 EmSh := Parts_mk B Tryz.func16
theorem Parts_Em_R : PartsRP B 16 17 Em.R Em.sz Em.wf Em.may Em.mar := Parts_R B (Parts_Em_wr B) Em.Rs_sh (Em_Marshal_calls B)
theorem Em_fits (l : List Em) : ∀ a ∈ l.map Em.d, a.fits 7 = true := by
 intro a ha
 obtain ⟨c, -, rfl⟩ := List.mem_map.1 ha
 rfl
theorem part_Em_calls : partP B 68 Em.d := part_mk B Tryz.func68
theorem List_Em_calls : ListP B 30 Em.d := List_S B (fun x => Em_fits [x]) (part_Em_calls B) (List_mk B Tryz.func30)
theorem List_Em_tells : ListT B 30 Em.d := List_tells B (List_Em_calls B)
theorem okEm_rd (s : List UInt8) (d : Int) : okEm s d = (match k'w s d, k'a (fun s => okK s (d - 1)) 7 (knB tbE s d) with
 | none, some attrs => some ⟨attrs, (k'e (knB tbE s d) 2).n, ((numKN 3 6 (oneF [3, 6] (knB tbE s d))).1 : Int), (numKN 3 6 (oneF [3, 6] (knB tbE s d))).2, (k'e (knB tbE s d) 4).s, (k'e (knB tbE s d) 5).s, unB tbE s d⟩
 | _, _ => none) := by
 unfold okEm
 rw [okG_rd]
 cases k'w s d with
 | some e => rfl
 | none =>
  unfold tellEm
  simp only
  cases k'a (fun s => okK s (d - 1)) 7 (knB tbE s d) with
  | none => rfl
  | some attrs =>
   rfl
theorem Em_read (hB : BOk B) (s : List UInt8) (d : Int) (hl : s.length < big) (hd1 : -9223372036854775808 ≤ d) (hd2 : d < 9223372036854775808) :
  RdZ B 31 Em.d noEm (okEm s d) s d ∧ (∀ e0, k'w s d = some e0 → k'0 (cx B) 31 [sT s, .d (.int .i64 d)] [] (.tup [.d noEm.d, .d e0.d]) []) := by
 have h1 := k'1c B hB 69 tbE (tbE_calls B) s d hl hd1 hd2
 have hk : LOk (knB tbE s d) := k'm tbE s d hl
 have hm := lok_most hk
 obtain ⟨vs_attrs, e1, c_attrs, t1⟩ := k'1l B hB (fun s => okK s (d - 1)) Kv.sh noKV 26 [] (k'w s d) (unB tbE s d) d s.length (knB tbE s d) 7 hk (fun h => by have := kn_pos h; omega) hd2 (fun x hx hn => k'2c B hB x.s (d - 1) (lok_s hk hx) (by have := kn_pos2 hx; omega) (by omega))
 have hein : ∀ x, e1 = some x → EIn s.length x := t1.ein (fun x hx => k'26 hx)
 have main : k'0 (cx B) 31 [sT s, .d (.int .i64 d)] [] (.tup [.d (orD e1 (.agg [slD (vs_attrs.map KVs.d), .int .u64 (k'e (knB tbE s d) 2).n, .int .i64 ((numKN 3 6 (oneF [3, 6] (knB tbE s d))).1 : Nat), .int .u64 ((numKN 3 6 (oneF [3, 6] (knB tbE s d))).2 : Nat), .str (k'e (knB tbE s d) 4).s, .str (k'e (knB tbE s d) 5).s, .str (unB tbE s d)]) noEm.d), .d (eD e1)]) [] := by
  clear hein t1
  refine l_bw Tryz.func31 0 [] ?_
  refine l_cw [] (h1) rfl rfl rfl ?_
  refine x_tail (i0 := 13) (z := 14) (t0 := 7) rfl (by decide) rfl rfl rfl rfl rfl rfl rfl rfl rfl rfl ?_
  refine Y ?_
  refine x_cw [1] (k'1b B (k'w s d) (unB tbE s d) d s.length (knB tbE s d) 2 hm) rfl rfl rfl ?_
  refine x_cw [1] (rBytes0_calls B (k'w s d) (unB tbE s d) d s.length (knB tbE s d) 4 hm) rfl rfl rfl ?_
  refine x_cw [1] (rBytes0_calls B (k'w s d) (unB tbE s d) d s.length (knB tbE s d) 5 hm) rfl rfl rfl ?_
  refine x_cw [1] (c_attrs) rfl rfl rfl ?_
  refine l_cw [1] (rNumber_calls B e1 (unB tbE s d) d s.length (knB tbE s d) 3 6 hk) rfl rfl rfl ?_
  cases e1 with
  | none =>
   exact Z
  | some er =>
   cases er <;> (
   exact Z)
 constructor
 ·rw [okEm_rd]
  cases e1 with
  | none =>
   obtain ⟨k0, a_attrs, g_attrs, v_attrs⟩ := t1.ok
   rw [k0, g_attrs]
   subst v_attrs
   rw [ks_map a_attrs] at main
   exact main
  | some er =>
   have hno : (match k'w s d, k'a (fun s => okK s (d - 1)) 7 (knB tbE s d) with
    | none, some attrs => some (⟨attrs, (k'e (knB tbE s d) 2).n, ((numKN 3 6 (oneF [3, 6] (knB tbE s d))).1 : Int), (numKN 3 6 (oneF [3, 6] (knB tbE s d))).2, (k'e (knB tbE s d) 4).s, (k'e (knB tbE s d) 5).s, unB tbE s d⟩ : Em)
    | _, _ => none) = none := by
    cases hr : k'w s d with
    | some x => rfl
    | none =>
     rw [hr] at t1
     cases hp0 : k'a (fun s => okK s (d - 1)) 7 (knB tbE s d) with
     | none => rfl
     | some a0 =>
      rw [hp0] at t1
      have := t1.get.2; simp at this
   rw [hno]
   exact ⟨er, hein er rfl, main⟩
 ·intro e0 he
  rw [he] at t1
  have k1 := t1.keep
  subst k1
  exact main
