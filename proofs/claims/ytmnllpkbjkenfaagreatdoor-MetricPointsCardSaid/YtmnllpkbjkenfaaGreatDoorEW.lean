/- Exemplar: alike, may they be, written, read. -/
import Derived.Test.YtmnllpkbjkenfaaGreatDoorEP
set_option linter.unusedSimpArgs false
set_option linter.unusedVariables false
set_option maxRecDepth 100000
namespace Go.Proofs.YtmnllpkbjkenfaaGreatDoor
open Go Go.Abs
variable (B : Fr)
def Em.d (x : Em) : D := .agg [slD (Kv.ds x.attrs), .int .u64 x.time, .int .i64 x.kind, .int .u64 x.n, .str x.span, .str x.trace, .str x.u]
def Em.R (x : Em) (a : D) : Prop := ∃ (z_attrs : Bool) (l_attrs : List D), a = .agg [.sl z_attrs l_attrs, .int .u64 x.time, .int .i64 x.kind, .int .u64 x.n, .str x.span, .str x.trace, .str x.u] ∧ Kv.Rs x.attrs l_attrs
def EmSh (x : D) : Prop := ∃ (a0 : Bool) (a1 : List D) (a2 : Nat) (a3 : Int) (a4 : Nat) (a5 : List UInt8) (a6 : List UInt8) (a7 : List UInt8), x = .agg [.sl a0 a1, .int .u64 a2, .int .i64 a3, .int .u64 a4, .str a5, .str a6, .str a7]
theorem Em.R_sh {x : Em} {a : D} (h : x.R a) : EmSh a := by
 obtain ⟨z_attrs, l_attrs, h, -⟩ := h
 exact ⟨_, _, _, _, _, _, _, _, h⟩
theorem Em.d_R (x : Em) : x.R x.d := ⟨_, _, rfl, Kv.ds_R _⟩
theorem Em.Rs_sh {l : List Em} {xs : List D} (h : RsOf Em.R l xs) : ∀ x ∈ xs, EmSh x := fun x hx => by
 obtain ⟨v, -, r⟩ := h.mem hx
 exact Em.R_sh r
theorem Em_May_calls (x : Em) (xa : D) (d : Int) (hbig : x.sz < big) (hx : x.R xa) (hd1 : -9223372036854775808 ≤ d) (hd2 : d < 9223372036854775808) : k'1 (cx B) 257 [.d xa, .d (.int .i64 d)] [] (.d (.bool (x.may d))) [] := by
 obtain ⟨z_attrs, l_attrs, rfl, r_attrs⟩ := hx
 unfold Em.sz at hbig
 unfold Em.may
 by_cases hd0 : 0 ≤ d
 rotate_left
 ·rw [show decide (0 ≤ d) = false from decide_eq_false hd0]
  refine k'2 (X := cx B) (fn := Tryz.f257) Tryz.func257 rfl rfl rfl rfl rfl 0 [] rfl rfl ?_
  refine Y ?_
  rw [show decide (d ≥ 0) = false from decide_eq_false hd0]
  exact Z
 have c_u := k'1l B 287 tbE (tbE_calls B) x.u d (by omega) (by omega) hd2
 have c_kn := k'4l B x.kind x.n
 have c_attrs := k'1u B (a := x.attrs) z_attrs (d - 1) (by omega) (by omega) (by omega) r_attrs
 refine k'2 (X := cx B) (fn := Tryz.f257) Tryz.func257 rfl rfl rfl rfl rfl 0 [] rfl rfl ?_
 refine Y ?_
 rw [show decide (d ≥ 0) = decide (0 ≤ d) from rfl]
 cases e0 : (decide (0 ≤ d))
 ·exact Z
 refine Y ?_
 refine k'2p [] (c_kn) rfl rfl rfl rfl rfl ?_
 cases e1 : (mayNum x.kind x.n)
 ·exact Z
 refine Y ?_
 rw [k'x 1 (by omega) (by omega) (by omega) hd2]
 refine k'2p [] (c_attrs) rfl rfl rfl rfl rfl ?_
 cases e2 : (x.attrs.all fun k => k.may (d - 1))
 ·exact Z
 refine Y ?_
 refine k'c [] (c_u) rfl rfl rfl rfl rfl ?_
 exact Z
theorem All_Em_calls : AllP B 256 EmSh := All_of B (All1_mk B Tryz.func319) (k'3d B Tryz.func344) (Cont_mk B Tryz.func318) (Allc_mk B Tryz.func256)
theorem All_Em_R : AllRP B 256 257 Em.R Em.sz Em.may := All_R B (All_Em_calls B) Em.Rs_sh (fun x => by unfold Em.sz; omega) (Em_May_calls B)
theorem Em_Marshal_calls (x : Em) (xa : D) (d : Int) (hbig : x.sz < big) (hwf : x.wf) (hx : x.R xa) (hd1 : -9223372036854775808 ≤ d) (hd2 : d < 9223372036854775808) : k'1 (cx B) 223 [.d xa, .d (.int .i64 d)] [] (if x.may d then .tup [sT x.mar, .d .nili] else .tup [sT [], .d (Er.code 8).d]) [] := by
 have hm := Em_May_calls B x xa d hbig hx hd1 hd2
 have hlen := Em.mar_len x
 have hlen : x.mar.length < big := by omega
 obtain ⟨z_attrs, l_attrs, rfl, r_attrs⟩ := hx
 unfold Em.sz at hbig
 cases hc : x.may d
 ·rw [hc] at hm
  refine k'2 (X := cx B) (fn := Tryz.f223) Tryz.func223 rfl rfl rfl rfl rfl 0 [] rfl rfl ?_
  refine Y ?_
  refine k'3 [] (hm) rfl rfl rfl ?_
  exact Z
 rw [hc] at hm
 have hc' := hc
 unfold Em.may at hc'
 simp only [Bool.and_eq_true, decide_eq_true_eq] at hc'
 obtain ⟨⟨⟨hd, m_kn⟩, m_attrs⟩, hu⟩ := hc'
 obtain ⟨w_attrs, w_time, w_n⟩ := hwf
 unfold Em.mar Em.hb at hlen ⊢
 obtain ⟨a0, ha0, c0⟩ := k'1i B 2 x.time (by omega) (by omega) (.nw 102 2) [] k'36 (by simp only [List.length_append, List.length_nil] at hlen ⊢; omega)
 rw [List.nil_append] at c0
 obtain ⟨a1, ha1, c1⟩ := wr_either B (x.kind == 1) 3 x.n (by omega) (by omega) (a0) (fxV 2 x.time) ha0 (by simp only [List.length_append, List.length_nil] at hlen ⊢; omega)
 obtain ⟨a2, ha2, c2⟩ := k'3q B 4 x.span (by omega) (by omega) (a1) (fxV 2 x.time ++ opV 3 (x.kind == 1) x.n) ha1 (by simp only [List.length_append, List.length_nil] at hlen ⊢; omega)
 obtain ⟨a3, ha3, c3⟩ := k'3q B 5 x.trace (by omega) (by omega) (a2) (fxV 2 x.time ++ opV 3 (x.kind == 1) x.n ++ txV 4 x.span) ha2 (by simp only [List.length_append, List.length_nil] at hlen ⊢; omega)
 obtain ⟨a4, ha4, c4⟩ := wr_either B (x.kind == 2) 6 x.n (by omega) (by omega) (a3) (fxV 2 x.time ++ opV 3 (x.kind == 1) x.n ++ txV 4 x.span ++ txV 5 x.trace) ha3 (by simp only [List.length_append, List.length_nil] at hlen ⊢; omega)
 obtain ⟨a5, ha5, c5⟩ := k'3c B 7 (by omega) (by omega) z_attrs d (by omega) w_attrs m_attrs hd hd2 r_attrs (a4) (fxV 2 x.time ++ opV 3 (x.kind == 1) x.n ++ txV 4 x.span ++ txV 5 x.trace ++ opV 6 (x.kind == 2) x.n) ha4 (by simp only [List.length_append, List.length_nil] at hlen ⊢; omega)
 obtain ⟨cu, cs⟩ := k'2z B (s := x.u) ha5 (l := fxV 2 x.time ++ opV 3 (x.kind == 1) x.n ++ txV 4 x.span ++ txV 5 x.trace ++ opV 6 (x.kind == 2) x.n ++ psV 7 (Kv.mars x.attrs)) (by simp only [List.length_append] at hlen ⊢; omega)
 generalize fxV 2 x.time ++ opV 3 (x.kind == 1) x.n ++ txV 4 x.span ++ txV 5 x.trace ++ opV 6 (x.kind == 2) x.n ++ psV 7 (Kv.mars x.attrs) = o5 at c5 cu cs ⊢
 generalize fxV 2 x.time ++ opV 3 (x.kind == 1) x.n ++ txV 4 x.span ++ txV 5 x.trace ++ opV 6 (x.kind == 2) x.n = o4 at c4 c5
 generalize fxV 2 x.time ++ opV 3 (x.kind == 1) x.n ++ txV 4 x.span ++ txV 5 x.trace = o3 at c3 c4
 generalize fxV 2 x.time ++ opV 3 (x.kind == 1) x.n ++ txV 4 x.span = o2 at c2 c3
 generalize fxV 2 x.time ++ opV 3 (x.kind == 1) x.n = o1 at c1 c2
 generalize fxV 2 x.time = o0 at c0 c1
 refine k'2 (X := cx B) (fn := Tryz.f223) Tryz.func223 rfl rfl rfl rfl rfl 0 [] rfl rfl ?_
 refine Y ?_
 refine l_cw [] (hm) rfl rfl rfl ?_
 refine k'5 [1] (c0) rfl rfl rfl rfl rfl rfl rfl (by decide) (by simp [k'0 k'36]) (by simp [k'0 ha0]) rfl rfl rfl ?_
 refine Y ?_
 refine k'5 [1] (c1) rfl rfl rfl rfl rfl rfl rfl (by decide) (by simp [k'0 ha0]) (by simp [k'0 ha1]) rfl rfl rfl ?_
 refine Y ?_
 refine k'5 [1] (c2) rfl rfl rfl rfl rfl rfl rfl (by decide) (by simp [k'0 ha1]) (by simp [k'0 ha2]) rfl rfl rfl ?_
 refine Y ?_
 refine k'5 [1] (c3) rfl rfl rfl rfl rfl rfl rfl (by decide) (by simp [k'0 ha2]) (by simp [k'0 ha3]) rfl rfl rfl ?_
 refine Y ?_
 refine k'5 [1] (c4) rfl rfl rfl rfl rfl rfl rfl (by decide) (by simp [k'0 ha3]) (by simp [k'0 ha4]) rfl rfl rfl ?_
 refine Y ?_
 refine k'5 [1] (c5) rfl rfl rfl rfl rfl rfl rfl (by decide) (by simp [k'0 ha4]) (by simp [k'0 ha5]) rfl rfl rfl ?_
 refine Y ?_
 refine k'5 [1] (cu) rfl rfl rfl rfl rfl rfl rfl (by decide) (by simp [k'0 ha5]) (by simp [k'0 (.inl rfl)]) rfl rfl rfl ?_
 refine Y ?_
 refine k'5 [1] (cs) rfl rfl rfl rfl rfl rfl rfl (by decide) (by simp [k'0 (.inl rfl)]) rfl rfl rfl rfl ?_
 exact Z
theorem Parts_Em_wr : PartsP B 222 EmSh := k'4x B Tryz.func222
theorem Parts_Em_R : PartsRP B 222 223 Em.R Em.sz Em.wf Em.may Em.mar := Parts_R B (Parts_Em_wr B) Em.Rs_sh (Em_Marshal_calls B)
theorem Em_fits (l : List Em) : ∀ a ∈ l.map Em.d, a.fits 7 = true := by
 intro a ha
 obtain ⟨c, -, rfl⟩ := List.mem_map.1 ha
 rfl
theorem part_Em_calls : partP B 286 Em.d := k'3f B Tryz.func286
theorem List_Em_calls : ListP B 197 Em.d := List_S B (fun x => Em_fits [x]) (part_Em_calls B) (List_mk B Tryz.func197)
theorem k'49 : ListT B 197 Em.d := k'25 B (List_Em_calls B)
theorem okEm_rd (s : List UInt8) (d : Int) : okEm s d = (match k'j s d, k'7 (fun s => okK s (d - 1)) 7 (knB tbE s d) with
 | none, some attrs => some ⟨attrs, (k'8 (knB tbE s d) 2).n, ((numKN 3 6 (oneF [3, 6] (knB tbE s d))).1 : Int), (numKN 3 6 (oneF [3, 6] (knB tbE s d))).2, (k'8 (knB tbE s d) 4).s, (k'8 (knB tbE s d) 5).s, unB tbE s d⟩
 | _, _ => none) := by
 unfold okEm
 rw [okG_rd]
 cases k'j s d with
 | some e => rfl
 | none =>
  unfold tellEm
  simp only
  cases k'7 (fun s => okK s (d - 1)) 7 (knB tbE s d) with
  | none => rfl
  | some attrs =>
   rfl
theorem Em_read (hB : BOk B) (s : List UInt8) (d : Int) (hl : s.length < big) (hd1 : -9223372036854775808 ≤ d) (hd2 : d < 9223372036854775808) :
  RdZ B 198 Em.d noEm (okEm s d) s d ∧ (∀ e0, k'j s d = some e0 → k'1 (cx B) 198 [sT s, .d (.int .i64 d)] [] (.tup [.d noEm.d, .d e0.d]) []) := by
 have h1 := k'1d B hB 287 tbE (tbE_calls B) s d hl hd1 hd2
 have hk : LOk (knB tbE s d) := k'p tbE s d hl
 have hm := k'2y hk
 obtain ⟨vs_attrs, e1, c_attrs, t1⟩ := k'1c B hB (fun s => okK s (d - 1)) Kv.sh noKV 38 [] (k'j s d) (unB tbE s d) d s.length (knB tbE s d) 7 hk (fun h => by have := k'22 h; omega) hd2 (fun x hx hn => k'1e B hB x.s (d - 1) (lok_s hk hx) (by have := k'2k hx; omega) (by omega))
 have hein : ∀ x, e1 = some x → EIn s.length x := t1.ein (fun x hx => k'15 hx)
 have main : k'1 (cx B) 198 [sT s, .d (.int .i64 d)] [] (.tup [.d (orD e1 (.agg [slD (vs_attrs.map KVs.d), .int .u64 (k'8 (knB tbE s d) 2).n, .int .i64 ((numKN 3 6 (oneF [3, 6] (knB tbE s d))).1 : Nat), .int .u64 ((numKN 3 6 (oneF [3, 6] (knB tbE s d))).2 : Nat), .str (k'8 (knB tbE s d) 4).s, .str (k'8 (knB tbE s d) 5).s, .str (unB tbE s d)]) noEm.d), .d (eD e1)]) [] := by
  clear hein t1
  refine k'2 (X := cx B) (fn := Tryz.f198) Tryz.func198 rfl rfl rfl rfl rfl 0 [] rfl rfl ?_
  refine Y ?_
  refine l_cw [] (h1) rfl rfl rfl ?_
  refine x_tail (i0 := 13) (z := 14) (t0 := 7) rfl (by decide) rfl rfl rfl rfl rfl rfl rfl rfl rfl rfl ?_
  refine Y ?_
  refine x_cw [1] (k'9 B (k'j s d) (unB tbE s d) d s.length (knB tbE s d) 2 hm) rfl rfl rfl ?_
  refine x_cw [1] (rBytes0_calls B (k'j s d) (unB tbE s d) d s.length (knB tbE s d) 4 hm) rfl rfl rfl ?_
  refine x_cw [1] (rBytes0_calls B (k'j s d) (unB tbE s d) d s.length (knB tbE s d) 5 hm) rfl rfl rfl ?_
  refine x_cw [1] (c_attrs) rfl rfl rfl ?_
  refine l_cw [1] (rNumber_calls B e1 (unB tbE s d) d s.length (knB tbE s d) 3 6 hk) rfl rfl rfl ?_
  cases e1 with
  | none =>
   exact Z
  | some er =>
   cases er <;> (
   exact Z)
 constructor
 ·rw [okEm_rd]
  cases e1 with
  | none =>
   obtain ⟨k0, a_attrs, g_attrs, v_attrs⟩ := t1.ok
   rw [k0, g_attrs]
   subst v_attrs
   rw [ks_map a_attrs] at main
   exact main
  | some er =>
   have hno : (match k'j s d, k'7 (fun s => okK s (d - 1)) 7 (knB tbE s d) with
    | none, some attrs => some (⟨attrs, (k'8 (knB tbE s d) 2).n, ((numKN 3 6 (oneF [3, 6] (knB tbE s d))).1 : Int), (numKN 3 6 (oneF [3, 6] (knB tbE s d))).2, (k'8 (knB tbE s d) 4).s, (k'8 (knB tbE s d) 5).s, unB tbE s d⟩ : Em)
    | _, _ => none) = none := by
    cases hr : k'j s d with
    | some x => rfl
    | none =>
     rw [hr] at t1
     cases hp0 : k'7 (fun s => okK s (d - 1)) 7 (knB tbE s d) with
     | none => rfl
     | some a0 =>
      rw [hp0] at t1
      have := t1.get.2; simp at this
   rw [hno]
   exact ⟨er, hein er rfl, main⟩
 ·intro e0 he
  rw [he] at t1
  have k1 := t1.keep
  subst k1
  exact main
