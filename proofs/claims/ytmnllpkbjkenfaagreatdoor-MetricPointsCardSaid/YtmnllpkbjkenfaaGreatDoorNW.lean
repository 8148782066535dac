/- Number: alike, may they be, written, read. -/
import Derived.Test.YtmnllpkbjkenfaaGreatDoorNP
set_option linter.unusedSimpArgs false
set_option linter.unusedVariables false
set_option maxRecDepth 100000
namespace Go.Proofs.YtmnllpkbjkenfaaGreatDoor
open Go Go.Abs
variable (B : Fr)
def Nb.d (x : Nb) : D := .agg [slD (Kv.ds x.attrs), .int .u64 x.start, .int .u64 x.time, .int .i64 x.kind, .int .u64 x.n, slD (x.exs.map Em.d), .int .u32 x.flags, .str x.u]
def Nb.R (x : Nb) (a : D) : Prop := ∃ (z_attrs : Bool) (l_attrs : List D) (z_exs : Bool) (l_exs : List D), a = .agg [.sl z_attrs l_attrs, .int .u64 x.start, .int .u64 x.time, .int .i64 x.kind, .int .u64 x.n, .sl z_exs l_exs, .int .u32 x.flags, .str x.u] ∧ Kv.Rs x.attrs l_attrs ∧ RsOf Em.R x.exs l_exs
def NbSh (x : D) : Prop := ∃ (a0 : Bool) (a1 : List D) (a2 : Nat) (a3 : Nat) (a4 : Int) (a5 : Nat) (a6 : Bool) (a7 : List D) (a8 : Nat) (a9 : List UInt8), x = .agg [.sl a0 a1, .int .u64 a2, .int .u64 a3, .int .i64 a4, .int .u64 a5, .sl a6 a7, .int .u32 a8, .str a9]
theorem Nb.R_sh {x : Nb} {a : D} (h : x.R a) : NbSh a := by
 obtain ⟨z_attrs, l_attrs, z_exs, l_exs, h, -⟩ := h
 exact ⟨_, _, _, _, _, _, _, _, _, _, h⟩
theorem Nb.d_R (x : Nb) : x.R x.d := ⟨_, _, _, _, rfl, Kv.ds_R _, RsOf.map Em.d_R _⟩
theorem Nb.Rs_sh {l : List Nb} {xs : List D} (h : RsOf Nb.R l xs) : ∀ x ∈ xs, NbSh x := fun x hx => by
 obtain ⟨v, -, r⟩ := h.mem hx
 exact Nb.R_sh r
theorem Nb_May_calls (x : Nb) (xa : D) (d : Int) (hbig : x.sz < big) (hx : x.R xa) (hd1 : -9223372036854775808 ≤ d) (hd2 : d < 9223372036854775808) : k'1 (cx B) 165 [.d xa, .d (.int .i64 d)] [] (.d (.bool (x.may d))) [] := by
 obtain ⟨z_attrs, l_attrs, z_exs, l_exs, rfl, r_attrs, r_exs⟩ := hx
 unfold Nb.sz at hbig
 unfold Nb.may
 by_cases hd0 : 0 ≤ d
 rotate_left
 ·rw [show decide (0 ≤ d) = false from decide_eq_false hd0]
  refine k'2 (X := cx B) (fn := Tryz.f165) Tryz.func165 rfl rfl rfl rfl rfl 0 [] rfl rfl ?_
  refine Y ?_
  rw [show decide (d ≥ 0) = false from decide_eq_false hd0]
  exact Z
 have c_u := k'1l B 196 tbN (tbN_calls B) x.u d (by omega) (by omega) hd2
 have c_kn := k'4l B x.kind x.n
 have c_exs := All_Em_R B z_exs d (by omega) hd0 hd2 r_exs
 have c_attrs := k'1u B (a := x.attrs) z_attrs (d - 1) (by omega) (by omega) (by omega) r_attrs
 refine k'2 (X := cx B) (fn := Tryz.f165) Tryz.func165 rfl rfl rfl rfl rfl 0 [] rfl rfl ?_
 refine Y ?_
 rw [show decide (d ≥ 0) = decide (0 ≤ d) from rfl]
 cases e0 : (decide (0 ≤ d))
 ·exact Z
 refine Y ?_
 refine k'2p [] (c_kn) rfl rfl rfl rfl rfl ?_
 cases e1 : (mayNum x.kind x.n)
 ·exact Z
 refine Y ?_
 refine k'2p [] (c_exs) rfl rfl rfl rfl rfl ?_
 cases e2 : (x.exs.all fun k => k.may (d - 1))
 ·exact Z
 refine Y ?_
 rw [k'x 1 (by omega) (by omega) (by omega) hd2]
 refine k'2p [] (c_attrs) rfl rfl rfl rfl rfl ?_
 cases e3 : (x.attrs.all fun k => k.may (d - 1))
 ·exact Z
 refine Y ?_
 refine k'c [] (c_u) rfl rfl rfl rfl rfl ?_
 exact Z
theorem All_Nb_calls : AllP B 164 NbSh := All_of B (All1_mk B Tryz.func254) (k'3d B Tryz.func317) (Cont_mk B Tryz.func253) (Allc_mk B Tryz.func164)
theorem All_Nb_R : AllRP B 164 165 Nb.R Nb.sz Nb.may := All_R B (All_Nb_calls B) Nb.Rs_sh (fun x => by unfold Nb.sz; omega) (Nb_May_calls B)
theorem Nb_Marshal_calls (x : Nb) (xa : D) (d : Int) (hbig : x.sz < big) (hwf : x.wf) (hx : x.R xa) (hd1 : -9223372036854775808 ≤ d) (hd2 : d < 9223372036854775808) : k'1 (cx B) 125 [.d xa, .d (.int .i64 d)] [] (if x.may d then .tup [sT x.mar, .d .nili] else .tup [sT [], .d (Er.code 8).d]) [] := by
 have hm := Nb_May_calls B x xa d hbig hx hd1 hd2
 have hlen := Nb.mar_len x
 have hlen : x.mar.length < big := by omega
 obtain ⟨z_attrs, l_attrs, z_exs, l_exs, rfl, r_attrs, r_exs⟩ := hx
 unfold Nb.sz at hbig
 cases hc : x.may d
 ·rw [hc] at hm
  refine k'2 (X := cx B) (fn := Tryz.f125) Tryz.func125 rfl rfl rfl rfl rfl 0 [] rfl rfl ?_
  refine Y ?_
  refine k'3 [] (hm) rfl rfl rfl ?_
  exact Z
 rw [hc] at hm
 have hc' := hc
 unfold Nb.may at hc'
 simp only [Bool.and_eq_true, decide_eq_true_eq] at hc'
 obtain ⟨⟨⟨⟨hd, m_kn⟩, m_exs⟩, m_attrs⟩, hu⟩ := hc'
 obtain ⟨w_attrs, w_start, w_time, w_n, w_exs, w_flags⟩ := hwf
 unfold Nb.mar Nb.hb at hlen ⊢
 obtain ⟨a0, ha0, c0⟩ := k'1i B 2 x.start (by omega) (by omega) (.nw 102 2) [] k'36 (by simp only [List.length_append, List.length_nil] at hlen ⊢; omega)
 rw [List.nil_append] at c0
 obtain ⟨a1, ha1, c1⟩ := k'1i B 3 x.time (by omega) (by omega) (a0) (fxV 2 x.start) ha0 (by simp only [List.length_append, List.length_nil] at hlen ⊢; omega)
 obtain ⟨a2, ha2, c2⟩ := wr_either B (x.kind == 1) 4 x.n (by omega) (by omega) (a1) (fxV 2 x.start ++ fxV 3 x.time) ha1 (by simp only [List.length_append, List.length_nil] at hlen ⊢; omega)
 obtain ⟨a3, ha3, c3⟩ := Parts_Em_R B 5 (by omega) (by omega) z_exs d (by omega) w_exs m_exs hd hd2 r_exs (a2) (fxV 2 x.start ++ fxV 3 x.time ++ opV 4 (x.kind == 1) x.n) ha2 (by simp only [List.length_append, List.length_nil] at hlen ⊢; omega)
 obtain ⟨a4, ha4, c4⟩ := wr_either B (x.kind == 2) 6 x.n (by omega) (by omega) (a3) (fxV 2 x.start ++ fxV 3 x.time ++ opV 4 (x.kind == 1) x.n ++ psV 5 (x.exs.map Em.mar)) ha3 (by simp only [List.length_append, List.length_nil] at hlen ⊢; omega)
 obtain ⟨a5, ha5, c5⟩ := k'3c B 7 (by omega) (by omega) z_attrs d (by omega) w_attrs m_attrs hd hd2 r_attrs (a4) (fxV 2 x.start ++ fxV 3 x.time ++ opV 4 (x.kind == 1) x.n ++ psV 5 (x.exs.map Em.mar) ++ opV 6 (x.kind == 2) x.n) ha4 (by simp only [List.length_append, List.length_nil] at hlen ⊢; omega)
 obtain ⟨a6, ha6, c6⟩ := wr_var B 8 x.flags (by omega) (by omega) (by omega) (a5) (fxV 2 x.start ++ fxV 3 x.time ++ opV 4 (x.kind == 1) x.n ++ psV 5 (x.exs.map Em.mar) ++ opV 6 (x.kind == 2) x.n ++ psV 7 (Kv.mars x.attrs)) ha5 (by simp only [List.length_append, List.length_nil] at hlen ⊢; omega)
 obtain ⟨cu, cs⟩ := k'2z B (s := x.u) ha6 (l := fxV 2 x.start ++ fxV 3 x.time ++ opV 4 (x.kind == 1) x.n ++ psV 5 (x.exs.map Em.mar) ++ opV 6 (x.kind == 2) x.n ++ psV 7 (Kv.mars x.attrs) ++ vrV 8 x.flags) (by simp only [List.length_append] at hlen ⊢; omega)
 generalize fxV 2 x.start ++ fxV 3 x.time ++ opV 4 (x.kind == 1) x.n ++ psV 5 (x.exs.map Em.mar) ++ opV 6 (x.kind == 2) x.n ++ psV 7 (Kv.mars x.attrs) ++ vrV 8 x.flags = o6 at c6 cu cs ⊢
 generalize fxV 2 x.start ++ fxV 3 x.time ++ opV 4 (x.kind == 1) x.n ++ psV 5 (x.exs.map Em.mar) ++ opV 6 (x.kind == 2) x.n ++ psV 7 (Kv.mars x.attrs) = o5 at c5 c6
 generalize fxV 2 x.start ++ fxV 3 x.time ++ opV 4 (x.kind == 1) x.n ++ psV 5 (x.exs.map Em.mar) ++ opV 6 (x.kind == 2) x.n = o4 at c4 c5
 generalize fxV 2 x.start ++ fxV 3 x.time ++ opV 4 (x.kind == 1) x.n ++ psV 5 (x.exs.map Em.mar) = o3 at c3 c4
 generalize fxV 2 x.start ++ fxV 3 x.time ++ opV 4 (x.kind == 1) x.n = o2 at c2 c3
 generalize fxV 2 x.start ++ fxV 3 x.time = o1 at c1 c2
 generalize fxV 2 x.start = o0 at c0 c1
 refine k'2 (X := cx B) (fn := Tryz.f125) Tryz.func125 rfl rfl rfl rfl rfl 0 [] rfl rfl ?_
 refine Y ?_
 refine l_cw [] (hm) rfl rfl rfl ?_
 refine k'5 [1] (c0) rfl rfl rfl rfl rfl rfl rfl (by decide) (by simp [k'0 k'36]) (by simp [k'0 ha0]) rfl rfl rfl ?_
 refine Y ?_
 refine k'5 [1] (c1) rfl rfl rfl rfl rfl rfl rfl (by decide) (by simp [k'0 ha0]) (by simp [k'0 ha1]) rfl rfl rfl ?_
 refine Y ?_
 refine k'5 [1] (c2) rfl rfl rfl rfl rfl rfl rfl (by decide) (by simp [k'0 ha1]) (by simp [k'0 ha2]) rfl rfl rfl ?_
 refine Y ?_
 refine k'5 [1] (c3) rfl rfl rfl rfl rfl rfl rfl (by decide) (by simp [k'0 ha2]) (by simp [k'0 ha3]) rfl rfl rfl ?_
 refine Y ?_
 refine k'5 [1] (c4) rfl rfl rfl rfl rfl rfl rfl (by decide) (by simp [k'0 ha3]) (by simp [k'0 ha4]) rfl rfl rfl ?_
 refine Y ?_
 refine k'5 [1] (c5) rfl rfl rfl rfl rfl rfl rfl (by decide) (by simp [k'0 ha4]) (by simp [k'0 ha5]) rfl rfl rfl ?_
 refine Y ?_
 rw [show IntKind.u64.wrap (x.flags : Int) = (x.flags : Int) by rw [IntKind.wrap_u64]; omega]
 refine k'5 [1] (c6) rfl rfl rfl rfl rfl rfl rfl (by decide) (by simp [k'0 ha5]) (by simp [k'0 ha6]) rfl rfl rfl ?_
 refine Y ?_
 refine k'5 [1] (cu) rfl rfl rfl rfl rfl rfl rfl (by decide) (by simp [k'0 ha6]) (by simp [k'0 (.inl rfl)]) rfl rfl rfl ?_
 refine Y ?_
 refine k'5 [1] (cs) rfl rfl rfl rfl rfl rfl rfl (by decide) (by simp [k'0 (.inl rfl)]) rfl rfl rfl rfl ?_
 exact Z
theorem Parts_Nb_wr : PartsP B 124 NbSh := k'4x B Tryz.func124
theorem Parts_Nb_R : PartsRP B 124 125 Nb.R Nb.sz Nb.wf Nb.may Nb.mar := Parts_R B (Parts_Nb_wr B) Nb.Rs_sh (Nb_Marshal_calls B)
theorem Nb_fits (l : List Nb) : ∀ a ∈ l.map Nb.d, a.fits 8 = true := by
 intro a ha
 obtain ⟨c, -, rfl⟩ := List.mem_map.1 ha
 rfl
theorem part_Nb_calls : partP B 195 Nb.d := k'3f B Tryz.func195
theorem List_Nb_calls : ListP B 106 Nb.d := List_S B (fun x => Nb_fits [x]) (part_Nb_calls B) (List_mk B Tryz.func106)
theorem List_Nb_tells : ListT B 106 Nb.d := k'25 B (List_Nb_calls B)
theorem okNb_rd (s : List UInt8) (d : Int) : okNb s d = (match k'j s d, k'7 (fun s => okK s (d - 1)) 7 (knB tbN s d), k'7 (fun s => okEm s (d - 1)) 5 (knB tbN s d) with
 | none, some attrs, some exs => some ⟨attrs, (k'8 (knB tbN s d) 2).n, (k'8 (knB tbN s d) 3).n, ((numKN 4 6 (oneF [4, 6] (knB tbN s d))).1 : Int), (numKN 4 6 (oneF [4, 6] (knB tbN s d))).2, exs, (k'8 (knB tbN s d) 8).n % 4294967296, unB tbN s d⟩
 | _, _, _ => none) := by
 unfold okNb
 rw [okG_rd]
 cases k'j s d with
 | some e => rfl
 | none =>
  unfold tellNb
  simp only
  cases k'7 (fun s => okK s (d - 1)) 7 (knB tbN s d) with
  | none => rfl
  | some attrs =>
   cases k'7 (fun s => okEm s (d - 1)) 5 (knB tbN s d) with
   | none => rfl
   | some exs =>
    rfl
theorem Nb_read (hB : BOk B) (s : List UInt8) (d : Int) (hl : s.length < big) (hd1 : -9223372036854775808 ≤ d) (hd2 : d < 9223372036854775808) :
  RdZ B 107 Nb.d noNb (okNb s d) s d ∧ (∀ e0, k'j s d = some e0 → k'1 (cx B) 107 [sT s, .d (.int .i64 d)] [] (.tup [.d noNb.d, .d e0.d]) []) := by
 have h1 := k'1d B hB 196 tbN (tbN_calls B) s d hl hd1 hd2
 have hk : LOk (knB tbN s d) := k'p tbN s d hl
 have hm := k'2y hk
 obtain ⟨vs_attrs, e1, c_attrs, t1⟩ := k'1c B hB (fun s => okK s (d - 1)) Kv.sh noKV 38 [] (k'j s d) (unB tbN s d) d s.length (knB tbN s d) 7 hk (fun h => by have := k'22 h; omega) hd2 (fun x hx hn => k'1e B hB x.s (d - 1) (lok_s hk hx) (by have := k'2k hx; omega) (by omega))
 obtain ⟨vs_exs, e2, c_exs, t2⟩ := k'49 B hB (fun s => okEm s (d - 1)) id noEm 198 [] e1 (unB tbN s d) d s.length (knB tbN s d) 5 hk (fun h => by have := k'22 h; omega) hd2 (fun x hx hn => (Em_read B hB x.s (d - 1) (lok_s hk hx) (by have := k'2k hx; omega) (by omega)).1.at)
 have hein : ∀ x, e2 = some x → EIn s.length x := t2.ein (t1.ein (fun x hx => k'15 hx))
 have main : k'1 (cx B) 107 [sT s, .d (.int .i64 d)] [] (.tup [.d (orD e2 (.agg [slD (vs_attrs.map KVs.d), .int .u64 (k'8 (knB tbN s d) 2).n, .int .u64 (k'8 (knB tbN s d) 3).n, .int .i64 ((numKN 4 6 (oneF [4, 6] (knB tbN s d))).1 : Nat), .int .u64 ((numKN 4 6 (oneF [4, 6] (knB tbN s d))).2 : Nat), slD (vs_exs.map Em.d), .int .u32 ((k'8 (knB tbN s d) 8).n % 4294967296 : Nat), .str (unB tbN s d)]) noNb.d), .d (eD e2)]) [] := by
  clear hein t1 t2
  refine k'2 (X := cx B) (fn := Tryz.f107) Tryz.func107 rfl rfl rfl rfl rfl 0 [] rfl rfl ?_
  refine Y ?_
  refine l_cw [] (h1) rfl rfl rfl ?_
  refine x_tail (i0 := 16) (z := 17) (t0 := 7) rfl (by decide) rfl rfl rfl rfl rfl rfl rfl rfl rfl rfl ?_
  refine Y ?_
  refine x_cw [1] (c_attrs) rfl rfl rfl ?_
  refine x_cw [1] (k'9 B e1 (unB tbN s d) d s.length (knB tbN s d) 2 hm) rfl rfl rfl ?_
  refine x_cw [1] (k'9 B e1 (unB tbN s d) d s.length (knB tbN s d) 3 hm) rfl rfl rfl ?_
  refine x_cw [1] (c_exs) rfl rfl rfl ?_
  refine x_cw [1] (k'9 B e2 (unB tbN s d) d s.length (knB tbN s d) 8 hm) rfl rfl rfl ?_
  rw [u32w]
  refine l_cw [1] (rNumber_calls B e2 (unB tbN s d) d s.length (knB tbN s d) 4 6 hk) rfl rfl rfl ?_
  cases e2 with
  | none =>
   exact Z
  | some er =>
   cases er <;> (
   exact Z)
 constructor
 ·rw [okNb_rd]
  cases e2 with
  | none =>
   obtain ⟨k1, a_exs, g_exs, v_exs⟩ := t2.ok
   subst k1
   obtain ⟨k0, a_attrs, g_attrs, v_attrs⟩ := t1.ok
   rw [k0, g_attrs, g_exs]
   subst v_attrs
   rw [List.map_id] at v_exs
   subst v_exs
   rw [ks_map a_attrs] at main
   exact main
  | some er =>
   have hno : (match k'j s d, k'7 (fun s => okK s (d - 1)) 7 (knB tbN s d), k'7 (fun s => okEm s (d - 1)) 5 (knB tbN s d) with
    | none, some attrs, some exs => some (⟨attrs, (k'8 (knB tbN s d) 2).n, (k'8 (knB tbN s d) 3).n, ((numKN 4 6 (oneF [4, 6] (knB tbN s d))).1 : Int), (numKN 4 6 (oneF [4, 6] (knB tbN s d))).2, exs, (k'8 (knB tbN s d) 8).n % 4294967296, unB tbN s d⟩ : Nb)
    | _, _, _ => none) = none := by
    cases hr : k'j s d with
    | some x => rfl
    | none =>
     rw [hr] at t1
     cases hp0 : k'7 (fun s => okK s (d - 1)) 7 (knB tbN s d) with
     | none => rfl
     | some a0 =>
      rw [hp0] at t1
      obtain ⟨-, q0⟩ := t1.get
      subst q0
      cases hp1 : k'7 (fun s => okEm s (d - 1)) 5 (knB tbN s d) with
      | none => split <;> simp_all
      | some a1 =>
       rw [hp1] at t2
       have := t2.get.2; simp at this
   rw [hno]
   exact ⟨er, hein er rfl, main⟩
 ·intro e0 he
  rw [he] at t1
  have k1 := t1.keep
  subst k1
  have k2 := t2.keep
  subst k2
  exact main
