/- Metrics: alike, may they be, written. -/
import Derived.Test.YtcfkbpddmdfbaaaGreatDoorMJ
import Derived.Test.YtcfkbpddmdfbaaaGreatDoorDW
set_option linter.unusedSimpArgs false
set_option linter.unusedVariables false
set_option maxRecDepth 100000
namespace Go.Proofs.YtcfkbpddmdfbaaaGreatDoor
open Go Go.Abs
variable (B : Fr)
section
set_option maxHeartbeats 4000000 in
theorem mmay_calls (x : Me) (xa : D) (d : Int) (hbig : x.sz < big) (hx : x.R xa) (hd1 : -9223372036854775808 ≤ d) (hd2 : d < 9223372036854775808) : k'0 (cx B) 195 [.d xa, .d (.int .i64 d)] [] (.d (.bool (mayI x.kind x.dat d))) [] := by
 obtain ⟨z_nbs, l_nbs, z_his, l_his, z_ehs, l_ehs, z_sus, l_sus, z_mets, l_mets, rfl, r_nbs, r_his, r_ehs, r_sus, r_mets⟩ := hx
 unfold Me.sz In.sz at hbig
 have c_u := Rest_cap B 350 [.box [.int .i64 x.kind]] (tbI x.kind) (innerT B x.kind) x.dat.u d (by omega) (by omega) hd2
 have c_i := inner_calls B x.kind
 have q_nbs : 0 ≤ d → k'0 (cx B) 250 [.d (.sl z_nbs l_nbs), .d (.int .i64 d), .d (.fn 251 [])] [] (.d (.bool (x.dat.nbs.all fun k => k.may (d - 1)))) [] := fun h => All_Nb_R B z_nbs d (by omega) h hd2 r_nbs
 have q_his : 0 ≤ d → k'0 (cx B) 252 [.d (.sl z_his l_his), .d (.int .i64 d), .d (.fn 253 [])] [] (.d (.bool (x.dat.his.all fun k => k.may (d - 1)))) [] := fun h => All_Hi_R B z_his d (by omega) h hd2 r_his
 have q_ehs : 0 ≤ d → k'0 (cx B) 254 [.d (.sl z_ehs l_ehs), .d (.int .i64 d), .d (.fn 255 [])] [] (.d (.bool (x.dat.ehs.all fun k => k.may (d - 1)))) [] := fun h => All_Eh_R B z_ehs d (by omega) h hd2 r_ehs
 have q_sus : 0 ≤ d → k'0 (cx B) 256 [.d (.sl z_sus l_sus), .d (.int .i64 d), .d (.fn 257 [])] [] (.d (.bool (x.dat.sus.all fun k => k.may (d - 1)))) [] := fun h => All_Su_R B z_sus d (by omega) h hd2 r_sus
 have hR : mayI x.kind x.dat d = (decide (d ≥ 0) && ((x.dat.nbs.all fun k => k.may (d - 1)) && ((x.dat.his.all fun k => k.may (d - 1)) && ((x.dat.ehs.all fun k => k.may (d - 1)) && ((x.dat.sus.all fun k => k.may (d - 1)) && k'1a (tbI x.kind) x.dat.u d))))) := by
  unfold mayI In.pts
  rw [show decide (d ≥ 0) = decide (0 ≤ d) from rfl]
  simp only [Bool.and_assoc]
 rw [hR]
 clear hR
 generalize k'1a (tbI x.kind) x.dat.u d = RU at *
 refine l_bw Tryz.func195 0 [] ?_
 refine xw ?_
 cases hd : decide (d ≥ 0)
 ·refine xw ?_
  exact Z
 have hd0 : 0 ≤ d := of_decide_eq_true hd
 replace q_nbs := q_nbs hd0
 replace q_his := q_his hd0
 replace q_ehs := q_ehs hd0
 replace q_sus := q_sus hd0
 refine xw ?_
 refine Y ?_
 refine k'3 [] (q_nbs) rfl rfl rfl ?_
 refine xw ?_
 refine Y ?_
 cases h_nbs : (x.dat.nbs.all fun k => k.may (d - 1))
 ·refine xw ?_
  exact Z
 refine xw ?_
 refine Y ?_
 refine k'3 [] (q_his) rfl rfl rfl ?_
 refine xw ?_
 refine Y ?_
 cases h_his : (x.dat.his.all fun k => k.may (d - 1))
 ·refine xw ?_
  exact Z
 refine xw ?_
 refine Y ?_
 refine k'3 [] (q_ehs) rfl rfl rfl ?_
 refine xw ?_
 refine Y ?_
 cases h_ehs : (x.dat.ehs.all fun k => k.may (d - 1))
 ·refine xw ?_
  exact Z
 refine xw ?_
 refine Y ?_
 refine k'3 [] (q_sus) rfl rfl rfl ?_
 refine xw ?_
 refine Y ?_
 cases h_sus : (x.dat.sus.all fun k => k.may (d - 1))
 ·refine xw ?_
  exact Z
 refine xw ?_
 refine Y ?_
 refine k'3 [] (c_i) rfl rfl rfl ?_
 refine xw ?_
 refine Y ?_
 refine k'3 [] (c_u) rfl rfl rfl ?_
 refine xw ?_
 exact Z
set_option maxHeartbeats 4000000 in
theorem Me_May_calls (x : Me) (xa : D) (d : Int) (hbig : x.sz < big) (hx : x.R xa) (hd1 : -9223372036854775808 ≤ d) (hd2 : d < 9223372036854775808) : k'0 (cx B) 146 [.d xa, .d (.int .i64 d)] [] (.d (.bool (x.may d))) [] := by
 have c_b := mbare_calls B x xa hx
 have q_m : 0 ≤ d → k'0 (cx B) 195 [.d xa, .d (.int .i64 (d - 1))] [] (.d (.bool (mayI x.kind x.dat (d - 1)))) [] := fun h => mmay_calls B x xa (d - 1) hbig hx (by omega) (by omega)
 obtain ⟨z_nbs, l_nbs, z_his, l_his, z_ehs, l_ehs, z_sus, l_sus, z_mets, l_mets, rfl, r_nbs, r_his, r_ehs, r_sus, r_mets⟩ := hx
 unfold Me.sz at hbig
 have c_name := k'1g B x.name (by omega)
 have c_desc := k'1g B x.desc (by omega)
 have c_unit := k'1g B x.unit (by omega)
 have q_k : 0 ≤ d → k'0 (cx B) 139 [.d (.sl z_mets l_mets), .d (.int .i64 (d - 1))] [] (.d (.bool (x.mets.all fun k => k.may (d - 1)))) [] := fun h => k'1d B (a := x.mets) z_mets (d - 1) (by omega) (by omega) (by omega) r_mets
 have c_u := k'o B 196 tbM (tbM_calls B) x.u d (by omega) (by omega) hd2
 have hR : x.may d = (!decide (d < 0) && (bareM x.kind x.dat && ((!decide (x.kind > 0) || mayI x.kind x.dat (d - 1)) && (txt x.name && (txt x.desc && (txt x.unit && ((x.mets.all fun k => k.may (d - 1)) && k'1a tbM x.u d))))))) := by
  unfold Me.may
  rw [mayOn_bare, show decide (0 ≤ d) = !decide (d < 0) by by_cases h : d < 0 <;> simp [h] <;> omega]
  simp only [Bool.and_assoc]
 rw [hR]
 clear hR
 generalize bareM x.kind x.dat = BM at *
 generalize mayI x.kind x.dat (d - 1) = MI at *
 generalize k'1a tbM x.u d = RU at *
 refine l_bw Tryz.func146 0 [] ?_
 cases hd : decide (d < 0)
 rotate_left
 ·exact Z
 have hd0 : 0 ≤ d := by have := of_decide_eq_false hd; omega
 replace q_m := q_m hd0
 replace q_k := q_k hd0
 refine Y ?_
 refine k'23 [] (c_b) rfl rfl rfl rfl rfl ?_
 cases BM
 ·exact Z
 refine Y ?_
 cases hk : decide (x.kind > 0)
 ·refine Y ?_
  refine l_cw [] (c_name) rfl rfl rfl ?_
  cases e0 : (txt x.name)
  ·exact Z
  refine Y ?_
  refine k'23 [] (c_desc) rfl rfl rfl rfl rfl ?_
  cases e1 : (txt x.desc)
  ·exact Z
  refine Y ?_
  refine k'23 [] (c_unit) rfl rfl rfl rfl rfl ?_
  cases e2 : (txt x.unit)
  ·exact Z
  refine Y ?_
  rw [k'5 1 (by omega) (by omega) (by omega) hd2]
  refine k'23 [] (q_k) rfl rfl rfl rfl rfl ?_
  cases e3 : (x.mets.all fun k => k.may (d - 1))
  ·exact Z
  refine Y ?_
  refine k'a [] (c_u) rfl rfl rfl rfl rfl ?_
  exact Z
 refine Y ?_
 rw [k'5 1 (by omega) (by omega) (by omega) hd2]
 refine k'23 [] (q_m) rfl rfl rfl rfl rfl ?_
 cases MI
 ·exact Z
 refine Y ?_
 refine l_cw [] (c_name) rfl rfl rfl ?_
 cases e0 : (txt x.name)
 ·exact Z
 refine Y ?_
 refine k'23 [] (c_desc) rfl rfl rfl rfl rfl ?_
 cases e1 : (txt x.desc)
 ·exact Z
 refine Y ?_
 refine k'23 [] (c_unit) rfl rfl rfl rfl rfl ?_
 cases e2 : (txt x.unit)
 ·exact Z
 refine Y ?_
 rw [k'5 1 (by omega) (by omega) (by omega) hd2]
 refine k'23 [] (q_k) rfl rfl rfl rfl rfl ?_
 cases e3 : (x.mets.all fun k => k.may (d - 1))
 ·exact Z
 refine Y ?_
 refine k'a [] (c_u) rfl rfl rfl rfl rfl ?_
 exact Z
theorem All_Me_calls : AllP B 145 MeSh := All_of B (All1_mk B Tryz.func193) (k'2a B Tryz.func248) (Cont_mk B Tryz.func192) (Allc_mk B Tryz.func145)
theorem wr_flag (h : Bool) (n : Nat) (h1 : 1 ≤ n) (h2 : n ≤ 536870911) : Wr B 321 [iT n, .d (.bool h)] (flV n h) := fun a l ha hl => by
 cases h
 ·refine ⟨a, ha, ?_⟩
  rw [show flV n false = [] from rfl, List.append_nil]
  rcases ha with rfl | rfl | rfl <;> (rcases l with _ | ⟨c, l⟩ <;> (
  refine l_b0 Tryz.func321 1 [] ?_
  exact Z))
 rw [show flV n true = fewV n 1 from rfl] at hl ⊢
 obtain ⟨a', ha', h3⟩ := wr_few B n 1 h1 h2 (by omega) a l ha hl
 refine ⟨a', ha', ?_⟩
 generalize l ++ fewV n 1 = y at *
 rcases ha with rfl | rfl | rfl <;> (rcases ha' with rfl | rfl | rfl <;> (rcases l with _ | ⟨c, l⟩ <;> (rcases y with _ | ⟨c', y⟩ <;> (
 refine l_bw Tryz.func321 1 [] ?_
 refine k'2 [0] (h3) rfl rfl rfl ?_
 exact Z))))
theorem temp_u64 {t : Int} (h1 : -2147483648 ≤ t) (h2 : t < 2147483648) : IntKind.u64.wrap (IntKind.i64.wrap t) = (k'45 t : Int) := by
 rw [k'10 (by omega) (by omega)]
 unfold k'45
 rw [IntKind.wrap_u64]
 by_cases h : t < 0
 ·rw [if_pos h]; omega
 ·rw [if_neg h]; omega
theorem mwrite_calls (x : Me) (xa : D) (d : Int) (hbig : x.sz < big) (hwf : x.dat.wf) (hp : x.dat.pts (d - 1) = true) (hx : x.R xa) (hd1 : 0 ≤ d) (hd2 : d < 9223372036854775808) : k'0 (cx B) 243 [.d xa, .d (.int .i64 d)] [] (sT x.dat.mar) [] := by
 have hlen := x.dat.mar_len
 obtain ⟨z_nbs, l_nbs, z_his, l_his, z_ehs, l_ehs, z_sus, l_sus, z_mets, l_mets, rfl, r_nbs, r_his, r_ehs, r_sus, r_mets⟩ := hx
 unfold Me.sz at hbig
 have hlen : x.dat.mar.length < big := by omega
 unfold In.sz at hbig
 unfold In.pts at hp
 simp only [Bool.and_eq_true] at hp
 obtain ⟨⟨⟨m_nbs, m_his⟩, m_ehs⟩, m_sus⟩ := hp
 obtain ⟨w_nbs, w_his, w_ehs, w_sus, w_temp⟩ := hwf
 unfold In.mar In.hb at hlen ⊢
 obtain ⟨a0, ha0, c0⟩ := Parts_Nb_R B 1 (by omega) (by omega) z_nbs d (by omega) w_nbs m_nbs hd1 hd2 r_nbs (.nw 71 2) [] k'1z (by simp only [List.length_append, List.length_nil] at hlen ⊢; omega)
 rw [List.nil_append] at c0
 obtain ⟨a1, ha1, c1⟩ := Parts_Hi_R B 1 (by omega) (by omega) z_his d (by omega) w_his m_his hd1 hd2 r_his (a0) (psV 1 (x.dat.nbs.map Nb.mar)) ha0 (by simp only [List.length_append, List.length_nil] at hlen ⊢; omega)
 obtain ⟨a2, ha2, c2⟩ := Parts_Eh_R B 1 (by omega) (by omega) z_ehs d (by omega) w_ehs m_ehs hd1 hd2 r_ehs (a1) (psV 1 (x.dat.nbs.map Nb.mar) ++ psV 1 (x.dat.his.map Hi.mar)) ha1 (by simp only [List.length_append, List.length_nil] at hlen ⊢; omega)
 obtain ⟨a3, ha3, c3⟩ := Parts_Su_R B 1 (by omega) (by omega) z_sus d (by omega) w_sus m_sus hd1 hd2 r_sus (a2) (psV 1 (x.dat.nbs.map Nb.mar) ++ psV 1 (x.dat.his.map Hi.mar) ++ psV 1 (x.dat.ehs.map Eh.mar)) ha2 (by simp only [List.length_append, List.length_nil] at hlen ⊢; omega)
 obtain ⟨a4, ha4, c4⟩ := wr_var B 2 (k'45 x.dat.temp) (by omega) (by omega) (tempN_lt w_temp.1 w_temp.2) (a3) (psV 1 (x.dat.nbs.map Nb.mar) ++ psV 1 (x.dat.his.map Hi.mar) ++ psV 1 (x.dat.ehs.map Eh.mar) ++ psV 1 (x.dat.sus.map Su.mar)) ha3 (by simp only [List.length_append, List.length_nil] at hlen ⊢; omega)
 obtain ⟨a5, ha5, c5⟩ := wr_flag B x.dat.mono 3 (by omega) (by omega) (a4) (psV 1 (x.dat.nbs.map Nb.mar) ++ psV 1 (x.dat.his.map Hi.mar) ++ psV 1 (x.dat.ehs.map Eh.mar) ++ psV 1 (x.dat.sus.map Su.mar) ++ vrV 2 (k'45 x.dat.temp)) ha4 (by simp only [List.length_append, List.length_nil] at hlen ⊢; omega)
 obtain ⟨cu, cs⟩ := k'21 B (s := x.dat.u) ha5 (l := psV 1 (x.dat.nbs.map Nb.mar) ++ psV 1 (x.dat.his.map Hi.mar) ++ psV 1 (x.dat.ehs.map Eh.mar) ++ psV 1 (x.dat.sus.map Su.mar) ++ vrV 2 (k'45 x.dat.temp) ++ flV 3 x.dat.mono) (by simp only [List.length_append] at hlen ⊢; omega)
 generalize psV 1 (x.dat.nbs.map Nb.mar) ++ psV 1 (x.dat.his.map Hi.mar) ++ psV 1 (x.dat.ehs.map Eh.mar) ++ psV 1 (x.dat.sus.map Su.mar) ++ vrV 2 (k'45 x.dat.temp) ++ flV 3 x.dat.mono = o5 at c5 cu cs ⊢
 generalize psV 1 (x.dat.nbs.map Nb.mar) ++ psV 1 (x.dat.his.map Hi.mar) ++ psV 1 (x.dat.ehs.map Eh.mar) ++ psV 1 (x.dat.sus.map Su.mar) ++ vrV 2 (k'45 x.dat.temp) = o4 at c4 c5
 generalize psV 1 (x.dat.nbs.map Nb.mar) ++ psV 1 (x.dat.his.map Hi.mar) ++ psV 1 (x.dat.ehs.map Eh.mar) ++ psV 1 (x.dat.sus.map Su.mar) = o3 at c3 c4
 generalize psV 1 (x.dat.nbs.map Nb.mar) ++ psV 1 (x.dat.his.map Hi.mar) ++ psV 1 (x.dat.ehs.map Eh.mar) = o2 at c2 c3
 generalize psV 1 (x.dat.nbs.map Nb.mar) ++ psV 1 (x.dat.his.map Hi.mar) = o1 at c1 c2
 generalize psV 1 (x.dat.nbs.map Nb.mar) = o0 at c0 c1
 refine l_bw Tryz.func243 0 [] ?_
 refine l_wr [1] (c0) k'1z ha0 ?_
 refine l_wr [1] (c1) ha0 ha1 ?_
 refine l_wr [1] (c2) ha1 ha2 ?_
 refine l_wr [1] (c3) ha2 ha3 ?_
 rw [temp_u64 w_temp.1 w_temp.2]
 refine l_wr [1] (c4) ha3 ha4 ?_
 refine l_wr [1] (c5) ha4 ha5 ?_
 refine l_wr [1] (cu) ha5 (.inl rfl) ?_
 refine k'1f [1] (cs) rfl rfl rfl rfl rfl rfl rfl (by decide) (by simp [k'6 (.inl rfl)]) rfl rfl rfl rfl ?_
 exact Z
theorem onV_pos {k : Int} {x : In} (h1 : 0 < k) (h2 : k ≤ 5) : onV k x = paV (numK k) x.mar := by unfold onV; rw [if_pos ⟨by omega, h2⟩]
theorem onV_no {k : Int} {x : In} (h1 : ¬ 0 < k) : onV k x = [] := by unfold onV; rw [if_neg fun h => by have := h.1; omega]
set_option maxHeartbeats 4000000 in
theorem Me_Marshal_calls (x : Me) (xa : D) (d : Int) (hbig : x.sz < big) (hwf : x.wf) (hx : x.R xa) (hd1 : -9223372036854775808 ≤ d) (hd2 : d < 9223372036854775808) : k'0 (cx B) 183 [.d xa, .d (.int .i64 d)] [] (if x.may d then .tup [sT x.mar, .d .nili] else .tup [sT [], .d (Er.code 8).d]) [] := by
 have hm := Me_May_calls B x xa d hbig hx hd1 hd2
 have hlen := Me.mar_len x
 have hlen : x.mar.length < big := by omega
 have hxR := hx
 have hbig0 := hbig
 obtain ⟨z_nbs, l_nbs, z_his, l_his, z_ehs, l_ehs, z_sus, l_sus, z_mets, l_mets, rfl, r_nbs, r_his, r_ehs, r_sus, r_mets⟩ := hx
 unfold Me.sz at hbig
 cases hc : x.may d
 ·rw [hc] at hm
  refine l_bw Tryz.func183 0 [] ?_
  refine k'2 [] (hm) rfl rfl rfl ?_
  exact Z
 rw [hc] at hm
 have hc' := hc
 unfold Me.may at hc'
 simp only [Bool.and_eq_true, decide_eq_true_eq] at hc'
 obtain ⟨⟨⟨⟨⟨⟨hd, m_dat⟩, -⟩, -⟩, -⟩, m_mets⟩, hu⟩ := hc'
 obtain ⟨w_dat, w_mets⟩ := hwf
 unfold Me.mar Me.hb at hlen ⊢
 unfold mayOn at m_dat
 simp only [Bool.and_eq_true, decide_eq_true_eq] at m_dat
 obtain ⟨⟨⟨k1, k2⟩, -⟩, m_dat⟩ := m_dat
 by_cases hk : 0 < x.kind
 ·rw [if_neg (by omega)] at m_dat
  have hpt : 0 ≤ d - 1 ∧ x.dat.pts (d - 1 - 1) = true := by
   unfold mayI at m_dat
   simp only [Bool.and_eq_true, decide_eq_true_eq] at m_dat
   exact m_dat.1
  have c_w := mwrite_calls B x _ (d - 1) hbig0 w_dat hpt.2 hxR hpt.1 (by omega)
  have c_n := numberOf_calls B x.kind
  obtain ⟨-, -, n1, n2, -⟩ := numK_ok (k := x.kind) ⟨by omega, k2⟩
  rw [onV_pos hk k2] at hlen ⊢
  obtain ⟨a0, ha0, c0⟩ := k'24 B 1 x.name (by omega) (by omega) (.nw 71 2) [] k'1z (by simp only [List.length_append, List.length_nil] at hlen ⊢; omega)
  rw [List.nil_append] at c0
  obtain ⟨a1, ha1, c1⟩ := k'24 B 2 x.desc (by omega) (by omega) (a0) (txV 1 x.name) ha0 (by simp only [List.length_append, List.length_nil] at hlen ⊢; omega)
  obtain ⟨a2, ha2, c2⟩ := k'24 B 3 x.unit (by omega) (by omega) (a1) (txV 1 x.name ++ txV 2 x.desc) ha1 (by simp only [List.length_append, List.length_nil] at hlen ⊢; omega)
  obtain ⟨a3, ha3, c3⟩ := k'4a B (numK x.kind) x.dat.mar n1 n2 (a2) (txV 1 x.name ++ txV 2 x.desc ++ txV 3 x.unit) ha2 (by simp only [List.length_append, List.length_nil] at hlen ⊢; omega)
  obtain ⟨a4, ha4, c4⟩ := k'2n B 12 (by omega) (by omega) z_mets d (by omega) w_mets m_mets hd hd2 r_mets (a3) (txV 1 x.name ++ txV 2 x.desc ++ txV 3 x.unit ++ paV (numK x.kind) x.dat.mar) ha3 (by simp only [List.length_append, List.length_nil] at hlen ⊢; omega)
  obtain ⟨cu, cs⟩ := k'21 B (s := x.u) ha4 (l := txV 1 x.name ++ txV 2 x.desc ++ txV 3 x.unit ++ paV (numK x.kind) x.dat.mar ++ psV 12 (Kv.mars x.mets)) (by simp only [List.length_append] at hlen ⊢; omega)
  generalize txV 1 x.name ++ txV 2 x.desc ++ txV 3 x.unit ++ paV (numK x.kind) x.dat.mar ++ psV 12 (Kv.mars x.mets) = o4 at c4 cu cs ⊢
  generalize txV 1 x.name ++ txV 2 x.desc ++ txV 3 x.unit ++ paV (numK x.kind) x.dat.mar = o3 at c3 c4
  generalize txV 1 x.name ++ txV 2 x.desc ++ txV 3 x.unit = o2 at c2 c3
  generalize txV 1 x.name ++ txV 2 x.desc = o1 at c1 c2
  generalize txV 1 x.name = o0 at c0 c1
  refine l_bw Tryz.func183 0 [] ?_
  refine l_cw [] (hm) rfl rfl rfl ?_
  refine l_wr [1] (c0) k'1z ha0 ?_
  refine l_wr [1] (c1) ha0 ha1 ?_
  refine l_wr [1] (c2) ha1 ha2 ?_
  rw [show decide (x.kind > 0) = true from decide_eq_true hk]
  refine Y ?_
  refine x_cw [] (c_n) rfl rfl rfl ?_
  rw [k'5 1 (by omega) (by omega) (by omega) hd2]
  refine x_cw [] (c_w) rfl rfl rfl ?_
  refine x_call [1] (c3) rfl rfl rfl rfl rfl rfl (by decide) (by simp [k'6 ha2]) (by simp [k'6 ha3]) rfl rfl rfl rfl ?_
  refine Y ?_
  refine l_wr [1] (c4) ha3 ha4 ?_
  refine l_wr [1] (cu) ha4 (.inl rfl) ?_
  refine k'1f [1] (cs) rfl rfl rfl rfl rfl rfl rfl (by decide) (by simp [k'6 (.inl rfl)]) rfl rfl rfl rfl ?_
  exact Z
 ·rw [onV_no hk, List.append_nil] at hlen ⊢
  obtain ⟨a0, ha0, c0⟩ := k'24 B 1 x.name (by omega) (by omega) (.nw 71 2) [] k'1z (by simp only [List.length_append, List.length_nil] at hlen ⊢; omega)
  rw [List.nil_append] at c0
  obtain ⟨a1, ha1, c1⟩ := k'24 B 2 x.desc (by omega) (by omega) (a0) (txV 1 x.name) ha0 (by simp only [List.length_append, List.length_nil] at hlen ⊢; omega)
  obtain ⟨a2, ha2, c2⟩ := k'24 B 3 x.unit (by omega) (by omega) (a1) (txV 1 x.name ++ txV 2 x.desc) ha1 (by simp only [List.length_append, List.length_nil] at hlen ⊢; omega)
  obtain ⟨a3, ha3, c3⟩ := k'2n B 12 (by omega) (by omega) z_mets d (by omega) w_mets m_mets hd hd2 r_mets (a2) (txV 1 x.name ++ txV 2 x.desc ++ txV 3 x.unit) ha2 (by simp only [List.length_append, List.length_nil] at hlen ⊢; omega)
  obtain ⟨cu, cs⟩ := k'21 B (s := x.u) ha3 (l := txV 1 x.name ++ txV 2 x.desc ++ txV 3 x.unit ++ psV 12 (Kv.mars x.mets)) (by simp only [List.length_append] at hlen ⊢; omega)
  generalize txV 1 x.name ++ txV 2 x.desc ++ txV 3 x.unit ++ psV 12 (Kv.mars x.mets) = o3 at c3 cu cs ⊢
  generalize txV 1 x.name ++ txV 2 x.desc ++ txV 3 x.unit = o2 at c2 c3
  generalize txV 1 x.name ++ txV 2 x.desc = o1 at c1 c2
  generalize txV 1 x.name = o0 at c0 c1
  refine l_bw Tryz.func183 0 [] ?_
  refine l_cw [] (hm) rfl rfl rfl ?_
  refine l_wr [1] (c0) k'1z ha0 ?_
  refine l_wr [1] (c1) ha0 ha1 ?_
  refine l_wr [1] (c2) ha1 ha2 ?_
  rw [show decide (x.kind > 0) = false from decide_eq_false (by omega)]
  refine Y ?_
  refine l_wr [1] (c3) ha2 ha3 ?_
  refine l_wr [1] (cu) ha3 (.inl rfl) ?_
  refine k'1f [1] (cs) rfl rfl rfl rfl rfl rfl rfl (by decide) (by simp [k'6 (.inl rfl)]) rfl rfl rfl rfl ?_
  exact Z
theorem Parts_Me_wr : PartsP B 182 MeSh := k'33 B Tryz.func182
theorem Parts_Me_R : k'35 B 182 183 Me.R Me.sz Me.wf Me.may Me.mar := Parts_R B (Parts_Me_wr B) Me.Rs_sh (Me_Marshal_calls B)
end
section
theorem wrap64 (n : Int) : -9223372036854775808 ≤ IntKind.i64.wrap n ∧ IntKind.i64.wrap n < 9223372036854775808 := by rw [IntKind.wrap_i64]; omega
theorem tb3_calls (n k : Nat) : k'0 (cx B) 97 [iT n, iT k] [] (.d (.bool (tb3 n k))) [] := by
 rw [show tb3 n k = (decide ((n : Int) ≥ 1) && (decide ((n : Int) ≤ 3) && ((k : Int) == 2))) by
  unfold tb3
  rw [show ((k : Int) == 2) = (k == 2) from ibeq k 2, show decide ((n : Int) ≥ 1) = decide (1 ≤ n) by congr 1; apply propext; omega, show decide ((n : Int) ≤ 3) = decide (n ≤ 3) by congr 1; apply propext; omega]]
 refine l_bw Tryz.func97 0 [] ?_
 cases e1 : decide ((n : Int) ≥ 1)
 ·exact Z
 refine Y ?_
 cases e2 : decide ((n : Int) ≤ 3)
 ·exact Z
 exact Z
theorem tb1_calls (n k : Nat) : k'0 (cx B) 48 [iT n, iT k] [] (.d (.bool (tb1 n k))) [] := by
 rw [show tb1 n k = (((n : Int) == 1) && ((k : Int) == 2)) by unfold tb1; rw [show ((k : Int) == 2) = (k == 2) from ibeq k 2, show ((n : Int) == 1) = (n == 1) from ibeq n 1]]
 refine l_bw Tryz.func48 0 [] ?_
 cases e1 : ((n : Int) == 1)
 ·exact Z
 exact Z
def Sm.d (x : Sm) : D := .agg [.bool x.has, .str x.p.name, .str x.p.version, slD (Kv.ds x.p.attrs), .int .u32 x.p.dropped, .str x.p.u, slD (x.qs.map Me.d), .str x.sch, .str x.u]
def Sm.R (x : Sm) (a : D) : Prop := ∃ (zp : Bool) (lp : List D) (z : Bool) (l : List D), a = .agg [.bool x.has, .str x.p.name, .str x.p.version, .sl zp lp, .int .u32 x.p.dropped, .str x.p.u, .sl z l, .str x.sch, .str x.u] ∧ Kv.Rs x.p.attrs lp ∧ RsOf Me.R x.qs l
def SmSh (x : D) : Prop := ∃ (a0 : Bool) (a1 : List UInt8) (a2 : List UInt8) (a3 : Bool) (a4 : List D) (a5 : Nat) (a6 : List UInt8) (a7 : Bool) (a8 : List D) (a9 : List UInt8) (a10 : List UInt8), x = .agg [.bool a0, .str a1, .str a2, .sl a3 a4, .int .u32 a5, .str a6, .sl a7 a8, .str a9, .str a10]
theorem Sm.R_sh {l : List Sm} {xs : List D} (h : RsOf Sm.R l xs) : ∀ x ∈ xs, SmSh x := fun x hx => by
 obtain ⟨v, -, zp, lp, z, m, e, -⟩ := h.mem hx
 exact ⟨_, _, _, _, _, _, _, _, _, _, _, e⟩
theorem Sm.d_R (x : Sm) : Sm.R x (Sm.d x) := ⟨_, _, _, _, rfl, Kv.ds_R _, RsOf.map Me.d_R _⟩
theorem Sm.sz1 (x : Sm) : 1 ≤ smM.sz x := by
 show 1 ≤ trSz scM meM x
 unfold trSz
 omega
theorem AllQ_Me : AllRP B 145 146 Me.R meM.sz meM.may := All_R B (All_Me_calls B) Me.Rs_sh (fun x => by show 1 ≤ Me.sz x; unfold Me.sz; omega) (Me_May_calls B)
theorem Sm_May_calls (x : Sm) (xa : D) (d : Int) (hbig : smM.sz x < big) (hx : Sm.R x xa) (hd0 : -9223372036854775808 ≤ d) (hd2 : d < 9223372036854775808) : k'0 (cx B) 96 [.d xa, .d (.int .i64 d)] [] (.d (.bool (smM.may x d))) [] := by
 obtain ⟨zp, lp, z, l, rfl, r_p, r_qs⟩ := hx
 have hp : Sc.sz x.p < big := by
  change 300 + Sc.sz x.p + _ + _ + _ < big at hbig
  omega
 change trSz scM meM x < big at hbig
 unfold trSz at hbig
 have c_s : k'0 (cx B) 143 [_, _] [] (.d (.bool (scM.eq x.p scM.no))) [] := Sc_Same_calls B x.p noSc _ _ hp ⟨zp, lp, rfl, r_p⟩ (Sc.d_R _)
 have hw := wrap64 (d - 1)
 have c_m : k'0 (cx B) 144 [_, .d (.int .i64 (IntKind.i64.wrap (d - 1)))] [] (.d (.bool (scM.may x.p (IntKind.i64.wrap (d - 1))))) [] := Sc_May_calls B x.p _ _ hp ⟨zp, lp, rfl, r_p⟩ hw.1 hw.2
 have c_t := k'1g B x.sch (by omega)
 have c_u := k'o B 97 tb3 (tb3_calls B) x.u d (by omega) hd0 hd2
 show k'0 (cx B) 96 [_, _] [] (.d (.bool (trMay scM meM x d))) []
 unfold trMay
 by_cases h0 : 0 ≤ d
 ·have c_qs := AllQ_Me B z d (by omega) h0 hd2 r_qs
  rw [k'10 (by omega) (by omega)] at c_m
  have hP : mayP scM x.has x.p (d - 1) = (if x.has then scM.may x.p (d - 1) else scM.eq x.p scM.no) := rfl
  rw [hP, decide_eq_true h0]
  clear hP
  generalize scM.may x.p (d - 1) = pm at *
  generalize scM.eq x.p scM.no = pe at *
  generalize (x.qs.all fun k => meM.may k (d - 1)) = qm at *
  generalize k'1a tb3 x.u d = ru at *
  refine l_bw Tryz.func96 0 [] ?_
  refine k'2 [] (c_s) rfl rfl rfl ?_
  refine stp ?_
  refine l_join [(1, .d (.int .i64 d)), (2, .ptr 0 0), (5, .d (.bool (if x.has then pm else pe)))] [.mu [.d (.bool x.has), .d (.str x.p.name), .d (.str x.p.version), .d (.sl zp lp), .d (.int .u32 x.p.dropped), .d (.str x.p.u), .d (.sl z l), .d (.str x.sch), .d (.str x.u)]] True ?_ (fun _ e => ?_)
  ·cases hh : x.has
   ·refine Y ?_
    exact ⟨trivial, ⟨rfl, rfl, rfl, trivial⟩, rfl⟩
   refine Y ?_
   rw [k'10 (by omega) (by omega)]
   refine l_cw [] (c_m) rfl rfl rfl ?_
   exact ⟨trivial, ⟨rfl, rfl, rfl, trivial⟩, rfl⟩
  ·generalize (if x.has then pm else pe) = pb
   refine Y ?_
   rw [show decide (d ≥ 0) = true from decide_eq_true h0]
   refine Y ?_
   cases pb
   ·exact Z
   refine Y ?_
   refine k'23 [] (c_t) rfl rfl rfl rfl rfl ?_
   cases txt x.sch
   ·exact Z
   refine Y ?_
   refine k'23 [] (c_qs) rfl rfl rfl rfl rfl ?_
   cases qm
   ·exact Z
   refine Y ?_
   refine k'a [] (c_u) rfl rfl rfl rfl rfl ?_
   exact Z
 ·rw [decide_eq_false h0]
  simp only [Bool.false_and]
  generalize scM.may x.p (IntKind.i64.wrap (d - 1)) = pm at *
  generalize scM.eq x.p scM.no = pe at *
  refine l_bw Tryz.func96 0 [] ?_
  refine l_cw [] (c_s) rfl rfl rfl ?_
  cases hh : x.has
  ·refine Y ?_
   rw [show decide (d ≥ 0) = false from decide_eq_false h0]
   exact Z
  refine Y ?_
  refine l_cw [] (c_m) rfl rfl rfl ?_
  rw [show decide (d ≥ 0) = false from decide_eq_false h0]
  exact Z
theorem All_Sm_calls : AllP B 95 SmSh := All_of B (All1_mk B Tryz.func142) (k'2a B Tryz.func190) (Cont_mk B Tryz.func141) (Allc_mk B Tryz.func95)
theorem PartsQ_Me : k'35 B 182 183 Me.R meM.sz meM.wf meM.may meM.mar := Parts_Me_R B
theorem Sm_write_calls (x : Sm) (xa : D) (d : Int) (hbig : smM.sz x < big) (hwf : smM.wf x) (hx : Sm.R x xa) (hd2 : d < 9223372036854775808) (hm : smM.may x d = true) : k'0 (cx B) 128 [.d xa, .d (.int .i64 d)] [] (.tup [sT (smM.mar x), .d .nili]) [] := by
 have hlen := smM.len x
 have hlen : (smM.mar x).length < big := by omega
 obtain ⟨zp, lp, z, l, rfl, r_p, r_qs⟩ := hx
 have hp : Sc.sz x.p < big := by
  change 300 + Sc.sz x.p + _ + _ + _ < big at hbig
  omega
 change trSz scM meM x < big at hbig
 unfold trSz at hbig
 change trMay scM meM x d = true at hm
 unfold trMay at hm
 simp only [Bool.and_eq_true, decide_eq_true_eq] at hm
 obtain ⟨⟨⟨⟨hd, m_p⟩, m_sch⟩, m_qs⟩, hu⟩ := hm
 obtain ⟨w_p, w_qs⟩ := hwf
 change (trMar scM meM x).length < big at hlen
 show k'0 (cx B) 128 [_, _] [] (.tup [sT (trMar scM meM x), .d .nili]) []
 unfold trMar trB pV at hlen ⊢
 cases hh : x.has
 ·rw [hh] at hlen
  simp only [Bool.false_eq_true, if_false, List.nil_append] at hlen ⊢
  obtain ⟨a1, ha1, c1⟩ := PartsQ_Me B 2 (by omega) (by omega) z d (by omega) w_qs m_qs hd hd2 r_qs (.nw 71 2) [] k'1z (by simp only [List.length_append, List.length_nil] at hlen ⊢; omega)
  obtain ⟨a2, ha2, c2⟩ := k'24 B 3 x.sch (by omega) (by omega) a1 ([] ++ psV 2 (x.qs.map meM.mar)) ha1 (by simp only [List.length_append, List.length_nil] at hlen ⊢; omega)
  rw [List.nil_append] at c1 c2
  obtain ⟨cu, cs⟩ := k'21 B (s := x.u) ha2 (l := psV 2 (x.qs.map meM.mar) ++ txV 3 x.sch) (by simp only [List.length_append] at hlen ⊢; omega)
  generalize psV 2 (x.qs.map meM.mar) ++ txV 3 x.sch = o2 at c2 cu cs ⊢
  generalize psV 2 (x.qs.map meM.mar) = o1 at c1 c2
  refine l_bw Tryz.func128 0 [] ?_
  refine l_wr [1] (c1) k'1z ha1 ?_
  refine l_wr [1] (c2) ha1 ha2 ?_
  refine l_wr [1] (cu) ha2 (.inl rfl) ?_
  refine k'1f [1] (cs) rfl rfl rfl rfl rfl rfl rfl (by decide) (by simp [k'6 (.inl rfl)]) rfl rfl rfl rfl ?_
  exact Z
 have cm := Sc_Marshal_calls B x.p _ (d - 1) hp w_p ⟨zp, lp, rfl, r_p⟩ (by omega) (by omega)
 rw [hh] at m_p hlen
 rw [if_pos (show Sc.may x.p (d - 1) = true from m_p)] at cm
 simp only [if_true] at hlen ⊢
 have e : scM.mar x.p = Sc.mar x.p := rfl
 rw [e] at hlen ⊢
 obtain ⟨a0, ha0, c0⟩ := k'4a B 1 (Sc.mar x.p) (by omega) (by omega) (.nw 71 2) [] k'1z (by simp only [List.length_append, List.length_nil] at hlen ⊢; omega)
 rw [List.nil_append] at c0
 obtain ⟨a1, ha1, c1⟩ := PartsQ_Me B 2 (by omega) (by omega) z d (by omega) w_qs m_qs hd hd2 r_qs a0 (paV 1 (Sc.mar x.p)) ha0 (by simp only [List.length_append] at hlen ⊢; omega)
 obtain ⟨a2, ha2, c2⟩ := k'24 B 3 x.sch (by omega) (by omega) a1 (paV 1 (Sc.mar x.p) ++ psV 2 (x.qs.map meM.mar)) ha1 (by simp only [List.length_append] at hlen ⊢; omega)
 obtain ⟨cu, cs⟩ := k'21 B (s := x.u) ha2 (l := paV 1 (Sc.mar x.p) ++ psV 2 (x.qs.map meM.mar) ++ txV 3 x.sch) (by simp only [List.length_append] at hlen ⊢; omega)
 generalize paV 1 (Sc.mar x.p) ++ psV 2 (x.qs.map meM.mar) ++ txV 3 x.sch = o2 at c2 cu cs ⊢
 generalize paV 1 (Sc.mar x.p) ++ psV 2 (x.qs.map meM.mar) = o1 at c1 c2
 generalize paV 1 (Sc.mar x.p) = o0 at c0 c1
 refine l_bw Tryz.func128 0 [] ?_
 rw [k'10 (by omega) (by omega)]
 refine l_cw [] (cm) rfl rfl rfl ?_
 refine l_wr [1] (c0) k'1z ha0 ?_
 refine l_wr [1] (c1) ha0 ha1 ?_
 refine l_wr [1] (c2) ha1 ha2 ?_
 refine l_wr [1] (cu) ha2 (.inl rfl) ?_
 refine k'1f [1] (cs) rfl rfl rfl rfl rfl rfl rfl (by decide) (by simp [k'6 (.inl rfl)]) rfl rfl rfl rfl ?_
 exact Z
theorem Parts_Sm_wr : PartsP B 127 SmSh := k'33 B Tryz.func127
theorem Parts_Sm_R : k'35 B 127 128 Sm.R smM.sz smM.wf smM.may smM.mar := Parts_R0 B (Parts_Sm_wr B) Sm.R_sh fun v x d a b c _ e h => Sm_write_calls B v x d a b c e h
def Rm.d (x : Rm) : D := .agg [.bool x.has, slD (Kv.ds x.p.attrs), .int .u32 x.p.dropped, .str x.p.u, slD (x.qs.map Sm.d), .str x.sch, .str x.u]
def Rm.R (x : Rm) (a : D) : Prop := ∃ (zp : Bool) (lp : List D) (z : Bool) (l : List D), a = .agg [.bool x.has, .sl zp lp, .int .u32 x.p.dropped, .str x.p.u, .sl z l, .str x.sch, .str x.u] ∧ Kv.Rs x.p.attrs lp ∧ RsOf Sm.R x.qs l
def RmSh (x : D) : Prop := ∃ (a0 : Bool) (a1 : Bool) (a2 : List D) (a3 : Nat) (a4 : List UInt8) (a5 : Bool) (a6 : List D) (a7 : List UInt8) (a8 : List UInt8), x = .agg [.bool a0, .sl a1 a2, .int .u32 a3, .str a4, .sl a5 a6, .str a7, .str a8]
theorem Rm.R_sh {l : List Rm} {xs : List D} (h : RsOf Rm.R l xs) : ∀ x ∈ xs, RmSh x := fun x hx => by
 obtain ⟨v, -, zp, lp, z, m, e, -⟩ := h.mem hx
 exact ⟨_, _, _, _, _, _, _, _, _, e⟩
theorem Rm.d_R (x : Rm) : Rm.R x (Rm.d x) := ⟨_, _, _, _, rfl, Kv.ds_R _, RsOf.map Sm.d_R _⟩
theorem Rm.sz1 (x : Rm) : 1 ≤ rmM.sz x := by
 show 1 ≤ trSz rsM smM x
 unfold trSz
 omega
theorem AllQ_Sm : AllRP B 95 96 Sm.R smM.sz smM.may := All_R B (All_Sm_calls B) Sm.R_sh Sm.sz1 (Sm_May_calls B)
theorem Rm_May_calls (x : Rm) (xa : D) (d : Int) (hbig : rmM.sz x < big) (hx : Rm.R x xa) (hd0 : -9223372036854775808 ≤ d) (hd2 : d < 9223372036854775808) : k'0 (cx B) 46 [.d xa, .d (.int .i64 d)] [] (.d (.bool (rmM.may x d))) [] := by
 obtain ⟨zp, lp, z, l, rfl, r_p, r_qs⟩ := hx
 have hp : Rs.sz x.p < big := by
  change 300 + Rs.sz x.p + _ + _ + _ < big at hbig
  omega
 change trSz rsM smM x < big at hbig
 unfold trSz at hbig
 have c_s : k'0 (cx B) 93 [_, _] [] (.d (.bool (rsM.eq x.p rsM.no))) [] := Rs_Same_calls B x.p noRs _ _ hp ⟨zp, lp, rfl, r_p⟩ (Rs.d_R _)
 have hw := wrap64 (d - 1)
 have c_m : k'0 (cx B) 94 [_, .d (.int .i64 (IntKind.i64.wrap (d - 1)))] [] (.d (.bool (rsM.may x.p (IntKind.i64.wrap (d - 1))))) [] := Rs_May_calls B x.p _ _ hp ⟨zp, lp, rfl, r_p⟩ hw.1 hw.2
 have c_t := k'1g B x.sch (by omega)
 have c_u := k'o B 97 tb3 (tb3_calls B) x.u d (by omega) hd0 hd2
 show k'0 (cx B) 46 [_, _] [] (.d (.bool (trMay rsM smM x d))) []
 unfold trMay
 by_cases h0 : 0 ≤ d
 ·have c_qs := AllQ_Sm B z d (by omega) h0 hd2 r_qs
  rw [k'10 (by omega) (by omega)] at c_m
  have hP : mayP rsM x.has x.p (d - 1) = (if x.has then rsM.may x.p (d - 1) else rsM.eq x.p rsM.no) := rfl
  rw [hP, decide_eq_true h0]
  clear hP
  generalize rsM.may x.p (d - 1) = pm at *
  generalize rsM.eq x.p rsM.no = pe at *
  generalize (x.qs.all fun k => smM.may k (d - 1)) = qm at *
  generalize k'1a tb3 x.u d = ru at *
  refine l_bw Tryz.func46 0 [] ?_
  refine k'2 [] (c_s) rfl rfl rfl ?_
  refine stp ?_
  refine l_join [(1, .d (.int .i64 d)), (2, .ptr 0 0), (5, .d (.bool (if x.has then pm else pe)))] [.mu [.d (.bool x.has), .d (.sl zp lp), .d (.int .u32 x.p.dropped), .d (.str x.p.u), .d (.sl z l), .d (.str x.sch), .d (.str x.u)]] True ?_ (fun _ e => ?_)
  ·cases hh : x.has
   ·refine Y ?_
    exact ⟨trivial, ⟨rfl, rfl, rfl, trivial⟩, rfl⟩
   refine Y ?_
   rw [k'10 (by omega) (by omega)]
   refine l_cw [] (c_m) rfl rfl rfl ?_
   exact ⟨trivial, ⟨rfl, rfl, rfl, trivial⟩, rfl⟩
  ·generalize (if x.has then pm else pe) = pb
   refine Y ?_
   rw [show decide (d ≥ 0) = true from decide_eq_true h0]
   refine Y ?_
   cases pb
   ·exact Z
   refine Y ?_
   refine k'23 [] (c_t) rfl rfl rfl rfl rfl ?_
   cases txt x.sch
   ·exact Z
   refine Y ?_
   refine k'23 [] (c_qs) rfl rfl rfl rfl rfl ?_
   cases qm
   ·exact Z
   refine Y ?_
   refine k'a [] (c_u) rfl rfl rfl rfl rfl ?_
   exact Z
 ·rw [decide_eq_false h0]
  simp only [Bool.false_and]
  generalize rsM.may x.p (IntKind.i64.wrap (d - 1)) = pm at *
  generalize rsM.eq x.p rsM.no = pe at *
  refine l_bw Tryz.func46 0 [] ?_
  refine l_cw [] (c_s) rfl rfl rfl ?_
  cases hh : x.has
  ·refine Y ?_
   rw [show decide (d ≥ 0) = false from decide_eq_false h0]
   exact Z
  refine Y ?_
  refine l_cw [] (c_m) rfl rfl rfl ?_
  rw [show decide (d ≥ 0) = false from decide_eq_false h0]
  exact Z
theorem All_Rm_calls : AllP B 45 RmSh := All_of B (All1_mk B Tryz.func92) (k'2a B Tryz.func137) (Cont_mk B Tryz.func91) (Allc_mk B Tryz.func45)
theorem PartsQ_Sm : k'35 B 127 128 Sm.R smM.sz smM.wf smM.may smM.mar := Parts_Sm_R B
theorem Rm_write_calls (x : Rm) (xa : D) (d : Int) (hbig : rmM.sz x < big) (hwf : rmM.wf x) (hx : Rm.R x xa) (hd2 : d < 9223372036854775808) (hm : rmM.may x d = true) : k'0 (cx B) 78 [.d xa, .d (.int .i64 d)] [] (.tup [sT (rmM.mar x), .d .nili]) [] := by
 have hlen := rmM.len x
 have hlen : (rmM.mar x).length < big := by omega
 obtain ⟨zp, lp, z, l, rfl, r_p, r_qs⟩ := hx
 have hp : Rs.sz x.p < big := by
  change 300 + Rs.sz x.p + _ + _ + _ < big at hbig
  omega
 change trSz rsM smM x < big at hbig
 unfold trSz at hbig
 change trMay rsM smM x d = true at hm
 unfold trMay at hm
 simp only [Bool.and_eq_true, decide_eq_true_eq] at hm
 obtain ⟨⟨⟨⟨hd, m_p⟩, m_sch⟩, m_qs⟩, hu⟩ := hm
 obtain ⟨w_p, w_qs⟩ := hwf
 change (trMar rsM smM x).length < big at hlen
 show k'0 (cx B) 78 [_, _] [] (.tup [sT (trMar rsM smM x), .d .nili]) []
 unfold trMar trB pV at hlen ⊢
 cases hh : x.has
 ·rw [hh] at hlen
  simp only [Bool.false_eq_true, if_false, List.nil_append] at hlen ⊢
  obtain ⟨a1, ha1, c1⟩ := PartsQ_Sm B 2 (by omega) (by omega) z d (by omega) w_qs m_qs hd hd2 r_qs (.nw 71 2) [] k'1z (by simp only [List.length_append, List.length_nil] at hlen ⊢; omega)
  obtain ⟨a2, ha2, c2⟩ := k'24 B 3 x.sch (by omega) (by omega) a1 ([] ++ psV 2 (x.qs.map smM.mar)) ha1 (by simp only [List.length_append, List.length_nil] at hlen ⊢; omega)
  rw [List.nil_append] at c1 c2
  obtain ⟨cu, cs⟩ := k'21 B (s := x.u) ha2 (l := psV 2 (x.qs.map smM.mar) ++ txV 3 x.sch) (by simp only [List.length_append] at hlen ⊢; omega)
  generalize psV 2 (x.qs.map smM.mar) ++ txV 3 x.sch = o2 at c2 cu cs ⊢
  generalize psV 2 (x.qs.map smM.mar) = o1 at c1 c2
  refine l_bw Tryz.func78 0 [] ?_
  refine l_wr [1] (c1) k'1z ha1 ?_
  refine l_wr [1] (c2) ha1 ha2 ?_
  refine l_wr [1] (cu) ha2 (.inl rfl) ?_
  refine k'1f [1] (cs) rfl rfl rfl rfl rfl rfl rfl (by decide) (by simp [k'6 (.inl rfl)]) rfl rfl rfl rfl ?_
  exact Z
 have cm := Rs_Marshal_calls B x.p _ (d - 1) hp w_p ⟨zp, lp, rfl, r_p⟩ (by omega) (by omega)
 rw [hh] at m_p hlen
 rw [if_pos (show Rs.may x.p (d - 1) = true from m_p)] at cm
 simp only [if_true] at hlen ⊢
 have e : rsM.mar x.p = Rs.mar x.p := rfl
 rw [e] at hlen ⊢
 obtain ⟨a0, ha0, c0⟩ := k'4a B 1 (Rs.mar x.p) (by omega) (by omega) (.nw 71 2) [] k'1z (by simp only [List.length_append, List.length_nil] at hlen ⊢; omega)
 rw [List.nil_append] at c0
 obtain ⟨a1, ha1, c1⟩ := PartsQ_Sm B 2 (by omega) (by omega) z d (by omega) w_qs m_qs hd hd2 r_qs a0 (paV 1 (Rs.mar x.p)) ha0 (by simp only [List.length_append] at hlen ⊢; omega)
 obtain ⟨a2, ha2, c2⟩ := k'24 B 3 x.sch (by omega) (by omega) a1 (paV 1 (Rs.mar x.p) ++ psV 2 (x.qs.map smM.mar)) ha1 (by simp only [List.length_append] at hlen ⊢; omega)
 obtain ⟨cu, cs⟩ := k'21 B (s := x.u) ha2 (l := paV 1 (Rs.mar x.p) ++ psV 2 (x.qs.map smM.mar) ++ txV 3 x.sch) (by simp only [List.length_append] at hlen ⊢; omega)
 generalize paV 1 (Rs.mar x.p) ++ psV 2 (x.qs.map smM.mar) ++ txV 3 x.sch = o2 at c2 cu cs ⊢
 generalize paV 1 (Rs.mar x.p) ++ psV 2 (x.qs.map smM.mar) = o1 at c1 c2
 generalize paV 1 (Rs.mar x.p) = o0 at c0 c1
 refine l_bw Tryz.func78 0 [] ?_
 rw [k'10 (by omega) (by omega)]
 refine l_cw [] (cm) rfl rfl rfl ?_
 refine l_wr [1] (c0) k'1z ha0 ?_
 refine l_wr [1] (c1) ha0 ha1 ?_
 refine l_wr [1] (c2) ha1 ha2 ?_
 refine l_wr [1] (cu) ha2 (.inl rfl) ?_
 refine k'1f [1] (cs) rfl rfl rfl rfl rfl rfl rfl (by decide) (by simp [k'6 (.inl rfl)]) rfl rfl rfl rfl ?_
 exact Z
theorem Parts_Rm_wr : PartsP B 77 RmSh := k'33 B Tryz.func77
theorem Parts_Rm_R : k'35 B 77 78 Rm.R rmM.sz rmM.wf rmM.may rmM.mar := Parts_R0 B (Parts_Rm_wr B) Rm.R_sh fun v x d a b c _ e h => Rm_write_calls B v x d a b c e h
end
