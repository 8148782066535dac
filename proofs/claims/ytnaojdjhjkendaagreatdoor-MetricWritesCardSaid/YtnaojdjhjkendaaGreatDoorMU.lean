/- Metrics: alike, may they be, written. -/
import Derived.Test.YtnaojdjhjkendaaGreatDoorMJ
set_option linter.unusedSimpArgs false
set_option linter.unusedVariables false
set_option maxRecDepth 100000
namespace Go.Proofs.YtnaojdjhjkendaaGreatDoor
open Go Go.Abs
variable (B : Fr)
section
set_option maxHeartbeats 4000000 in
theorem mmay_calls (x : Me) (xa : D) (d : Int) (hbig : x.sz < big) (hx : x.R xa) (hd1 : -9223372036854775808 ≤ d) (hd2 : d < 9223372036854775808) : k'0 (cx B) 62 [.d xa, .d (.int .i64 d)] [] (.d (.bool (mayI x.kind x.dat d))) [] := by
 obtain ⟨z_nbs, l_nbs, z_his, l_his, z_ehs, l_ehs, z_sus, l_sus, z_mets, l_mets, rfl, r_nbs, r_his, r_ehs, r_sus, r_mets⟩ := hx
 unfold Me.sz In.sz at hbig
 have c_u := Rest_cap B 165 [.box [.int .i64 x.kind]] (tbI x.kind) (innerT B x.kind) x.dat.u d (by omega) (by omega) hd2
 have c_i := inner_calls B x.kind
 have q_nbs : 0 ≤ d → k'0 (cx B) 137 [.d (.sl z_nbs l_nbs), .d (.int .i64 d), .d (.fn 138 [])] [] (.d (.bool (x.dat.nbs.all fun k => k.may (d - 1)))) [] := fun h => All_Nb_R B z_nbs d (by omega) h hd2 r_nbs
 have q_his : 0 ≤ d → k'0 (cx B) 139 [.d (.sl z_his l_his), .d (.int .i64 d), .d (.fn 140 [])] [] (.d (.bool (x.dat.his.all fun k => k.may (d - 1)))) [] := fun h => All_Hi_R B z_his d (by omega) h hd2 r_his
 have q_ehs : 0 ≤ d → k'0 (cx B) 141 [.d (.sl z_ehs l_ehs), .d (.int .i64 d), .d (.fn 142 [])] [] (.d (.bool (x.dat.ehs.all fun k => k.may (d - 1)))) [] := fun h => All_Eh_R B z_ehs d (by omega) h hd2 r_ehs
 have q_sus : 0 ≤ d → k'0 (cx B) 143 [.d (.sl z_sus l_sus), .d (.int .i64 d), .d (.fn 144 [])] [] (.d (.bool (x.dat.sus.all fun k => k.may (d - 1)))) [] := fun h => All_Su_R B z_sus d (by omega) h hd2 r_sus
 have hR : mayI x.kind x.dat d = (decide (d ≥ 0) && ((x.dat.nbs.all fun k => k.may (d - 1)) && ((x.dat.his.all fun k => k.may (d - 1)) && ((x.dat.ehs.all fun k => k.may (d - 1)) && ((x.dat.sus.all fun k => k.may (d - 1)) && k'1v (tbI x.kind) x.dat.u d))))) := by
  unfold mayI In.pts
  rw [show decide (d ≥ 0) = decide (0 ≤ d) from rfl]
  simp only [Bool.and_assoc]
 rw [hR]
 clear hR
 generalize k'1v (tbI x.kind) x.dat.u d = RU at *
 refine l_bw Tryz.func62 0 [] ?_
 refine xw ?_
 cases hd : decide (d ≥ 0)
 ·refine xw ?_
  exact Z
 have hd0 : 0 ≤ d := of_decide_eq_true hd
 replace q_nbs := q_nbs hd0
 replace q_his := q_his hd0
 replace q_ehs := q_ehs hd0
 replace q_sus := q_sus hd0
 refine xw ?_
 refine Y ?_
 refine k'6 [] (q_nbs) rfl rfl rfl ?_
 refine xw ?_
 refine Y ?_
 cases h_nbs : (x.dat.nbs.all fun k => k.may (d - 1))
 ·refine xw ?_
  exact Z
 refine xw ?_
 refine Y ?_
 refine k'6 [] (q_his) rfl rfl rfl ?_
 refine xw ?_
 refine Y ?_
 cases h_his : (x.dat.his.all fun k => k.may (d - 1))
 ·refine xw ?_
  exact Z
 refine xw ?_
 refine Y ?_
 refine k'6 [] (q_ehs) rfl rfl rfl ?_
 refine xw ?_
 refine Y ?_
 cases h_ehs : (x.dat.ehs.all fun k => k.may (d - 1))
 ·refine xw ?_
  exact Z
 refine xw ?_
 refine Y ?_
 refine k'6 [] (q_sus) rfl rfl rfl ?_
 refine xw ?_
 refine Y ?_
 cases h_sus : (x.dat.sus.all fun k => k.may (d - 1))
 ·refine xw ?_
  exact Z
 refine xw ?_
 refine Y ?_
 refine k'6 [] (c_i) rfl rfl rfl ?_
 refine xw ?_
 refine Y ?_
 refine k'6 [] (c_u) rfl rfl rfl ?_
 refine xw ?_
 exact Z
set_option maxHeartbeats 4000000 in
theorem Me_May_calls (x : Me) (xa : D) (d : Int) (hbig : x.sz < big) (hx : x.R xa) (hd1 : -9223372036854775808 ≤ d) (hd2 : d < 9223372036854775808) : k'0 (cx B) 13 [.d xa, .d (.int .i64 d)] [] (.d (.bool (x.may d))) [] := by
 have c_b := mbare_calls B x xa hx
 have q_m : 0 ≤ d → k'0 (cx B) 62 [.d xa, .d (.int .i64 (d - 1))] [] (.d (.bool (mayI x.kind x.dat (d - 1)))) [] := fun h => mmay_calls B x xa (d - 1) hbig hx (by omega) (by omega)
 obtain ⟨z_nbs, l_nbs, z_his, l_his, z_ehs, l_ehs, z_sus, l_sus, z_mets, l_mets, rfl, r_nbs, r_his, r_ehs, r_sus, r_mets⟩ := hx
 unfold Me.sz at hbig
 have c_name := k'30 B x.name (by omega)
 have c_desc := k'30 B x.desc (by omega)
 have c_unit := k'30 B x.unit (by omega)
 have q_k : 0 ≤ d → k'0 (cx B) 64 [.d (.sl z_mets l_mets), .d (.int .i64 (d - 1))] [] (.d (.bool (x.mets.all fun k => k.may (d - 1)))) [] := fun h => k'1p B (a := x.mets) z_mets (d - 1) (by omega) (by omega) (by omega) r_mets
 have c_u := k'1e B 19 tbM (tbM_calls B) x.u d (by omega) (by omega) hd2
 have hR : x.may d = (!decide (d < 0) && (bareM x.kind x.dat && ((!decide (x.kind > 0) || mayI x.kind x.dat (d - 1)) && (txt x.name && (txt x.desc && (txt x.unit && ((x.mets.all fun k => k.may (d - 1)) && k'1v tbM x.u d))))))) := by
  unfold Me.may
  rw [mayOn_bare, show decide (0 ≤ d) = !decide (d < 0) by by_cases h : d < 0 <;> simp [h] <;> omega]
  simp only [Bool.and_assoc]
 rw [hR]
 clear hR
 generalize bareM x.kind x.dat = BM at *
 generalize mayI x.kind x.dat (d - 1) = MI at *
 generalize k'1v tbM x.u d = RU at *
 refine l_bw Tryz.func13 0 [] ?_
 cases hd : decide (d < 0)
 rotate_left
 ·exact Z
 have hd0 : 0 ≤ d := by have := of_decide_eq_false hd; omega
 replace q_m := q_m hd0
 replace q_k := q_k hd0
 refine Y ?_
 refine k'2d [] (c_b) rfl rfl rfl rfl rfl ?_
 cases BM
 ·exact Z
 refine Y ?_
 cases hk : decide (x.kind > 0)
 ·refine Y ?_
  refine l_cw [] (c_name) rfl rfl rfl ?_
  cases e0 : (txt x.name)
  ·exact Z
  refine Y ?_
  refine k'2d [] (c_desc) rfl rfl rfl rfl rfl ?_
  cases e1 : (txt x.desc)
  ·exact Z
  refine Y ?_
  refine k'2d [] (c_unit) rfl rfl rfl rfl rfl ?_
  cases e2 : (txt x.unit)
  ·exact Z
  refine Y ?_
  rw [k'4 1 (by omega) (by omega) (by omega) hd2]
  refine k'2d [] (q_k) rfl rfl rfl rfl rfl ?_
  cases e3 : (x.mets.all fun k => k.may (d - 1))
  ·exact Z
  refine Y ?_
  refine k'7 [] (c_u) rfl rfl rfl rfl rfl ?_
  exact Z
 refine Y ?_
 rw [k'4 1 (by omega) (by omega) (by omega) hd2]
 refine k'2d [] (q_m) rfl rfl rfl rfl rfl ?_
 cases MI
 ·exact Z
 refine Y ?_
 refine l_cw [] (c_name) rfl rfl rfl ?_
 cases e0 : (txt x.name)
 ·exact Z
 refine Y ?_
 refine k'2d [] (c_desc) rfl rfl rfl rfl rfl ?_
 cases e1 : (txt x.desc)
 ·exact Z
 refine Y ?_
 refine k'2d [] (c_unit) rfl rfl rfl rfl rfl ?_
 cases e2 : (txt x.unit)
 ·exact Z
 refine Y ?_
 rw [k'4 1 (by omega) (by omega) (by omega) hd2]
 refine k'2d [] (q_k) rfl rfl rfl rfl rfl ?_
 cases e3 : (x.mets.all fun k => k.may (d - 1))
 ·exact Z
 refine Y ?_
 refine k'7 [] (c_u) rfl rfl rfl rfl rfl ?_
 exact Z
theorem wr_flag (h : Bool) (n : Nat) (h1 : 1 ≤ n) (h2 : n ≤ 536870911) : Wr B 133 [iT n, .d (.bool h)] (flV n h) := fun a l ha hl => by
 cases h
 ·refine ⟨a, ha, ?_⟩
  rw [show flV n false = [] from rfl, List.append_nil]
  rcases ha with rfl | rfl | rfl <;> (rcases l with _ | ⟨c, l⟩ <;> (
  refine l_b0 Tryz.func133 1 [] ?_
  exact Z))
 rw [show flV n true = fewV n 1 from rfl] at hl ⊢
 obtain ⟨a', ha', h3⟩ := wr_few B n 1 h1 h2 (by omega) a l ha hl
 refine ⟨a', ha', ?_⟩
 generalize l ++ fewV n 1 = y at *
 rcases ha with rfl | rfl | rfl <;> (rcases ha' with rfl | rfl | rfl <;> (rcases l with _ | ⟨c, l⟩ <;> (rcases y with _ | ⟨c', y⟩ <;> (
 refine l_bw Tryz.func133 1 [] ?_
 refine k'2 [0] (h3) rfl rfl rfl ?_
 exact Z))))
theorem temp_u64 {t : Int} (h1 : -2147483648 ≤ t) (h2 : t < 2147483648) : IntKind.u64.wrap (IntKind.i64.wrap t) = (tempN t : Int) := by
 rw [k'12 (by omega) (by omega)]
 unfold tempN
 rw [IntKind.wrap_u64]
 by_cases h : t < 0
 ·rw [if_pos h]; omega
 ·rw [if_neg h]; omega
theorem mwrite_calls (x : Me) (xa : D) (d : Int) (hbig : x.sz < big) (hwf : x.dat.wf) (hp : x.dat.pts (d - 1) = true) (hx : x.R xa) (hd1 : 0 ≤ d) (hd2 : d < 9223372036854775808) : k'0 (cx B) 56 [.d xa, .d (.int .i64 d)] [] (sT x.dat.mar) [] := by
 have hlen := x.dat.mar_len
 obtain ⟨z_nbs, l_nbs, z_his, l_his, z_ehs, l_ehs, z_sus, l_sus, z_mets, l_mets, rfl, r_nbs, r_his, r_ehs, r_sus, r_mets⟩ := hx
 unfold Me.sz at hbig
 have hlen : x.dat.mar.length < big := by omega
 unfold In.sz at hbig
 unfold In.pts at hp
 simp only [Bool.and_eq_true] at hp
 obtain ⟨⟨⟨m_nbs, m_his⟩, m_ehs⟩, m_sus⟩ := hp
 obtain ⟨w_nbs, w_his, w_ehs, w_sus, w_temp⟩ := hwf
 unfold In.mar In.hb at hlen ⊢
 obtain ⟨a0, ha0, c0⟩ := Parts_Nb_R B 1 (by omega) (by omega) z_nbs d (by omega) w_nbs m_nbs hd1 hd2 r_nbs (.nw 122 2) [] k'31 (by simp only [List.length_append, List.length_nil] at hlen ⊢; omega)
 rw [List.nil_append] at c0
 obtain ⟨a1, ha1, c1⟩ := Parts_Hi_R B 1 (by omega) (by omega) z_his d (by omega) w_his m_his hd1 hd2 r_his (a0) (psV 1 (x.dat.nbs.map Nb.mar)) ha0 (by simp only [List.length_append, List.length_nil] at hlen ⊢; omega)
 obtain ⟨a2, ha2, c2⟩ := Parts_Eh_R B 1 (by omega) (by omega) z_ehs d (by omega) w_ehs m_ehs hd1 hd2 r_ehs (a1) (psV 1 (x.dat.nbs.map Nb.mar) ++ psV 1 (x.dat.his.map Hi.mar)) ha1 (by simp only [List.length_append, List.length_nil] at hlen ⊢; omega)
 obtain ⟨a3, ha3, c3⟩ := Parts_Su_R B 1 (by omega) (by omega) z_sus d (by omega) w_sus m_sus hd1 hd2 r_sus (a2) (psV 1 (x.dat.nbs.map Nb.mar) ++ psV 1 (x.dat.his.map Hi.mar) ++ psV 1 (x.dat.ehs.map Eh.mar)) ha2 (by simp only [List.length_append, List.length_nil] at hlen ⊢; omega)
 obtain ⟨a4, ha4, c4⟩ := wr_var B 2 (tempN x.dat.temp) (by omega) (by omega) (tempN_lt w_temp.1 w_temp.2) (a3) (psV 1 (x.dat.nbs.map Nb.mar) ++ psV 1 (x.dat.his.map Hi.mar) ++ psV 1 (x.dat.ehs.map Eh.mar) ++ psV 1 (x.dat.sus.map Su.mar)) ha3 (by simp only [List.length_append, List.length_nil] at hlen ⊢; omega)
 obtain ⟨a5, ha5, c5⟩ := wr_flag B x.dat.mono 3 (by omega) (by omega) (a4) (psV 1 (x.dat.nbs.map Nb.mar) ++ psV 1 (x.dat.his.map Hi.mar) ++ psV 1 (x.dat.ehs.map Eh.mar) ++ psV 1 (x.dat.sus.map Su.mar) ++ vrV 2 (tempN x.dat.temp)) ha4 (by simp only [List.length_append, List.length_nil] at hlen ⊢; omega)
 obtain ⟨cu, cs⟩ := k'2x B (s := x.dat.u) ha5 (l := psV 1 (x.dat.nbs.map Nb.mar) ++ psV 1 (x.dat.his.map Hi.mar) ++ psV 1 (x.dat.ehs.map Eh.mar) ++ psV 1 (x.dat.sus.map Su.mar) ++ vrV 2 (tempN x.dat.temp) ++ flV 3 x.dat.mono) (by simp only [List.length_append] at hlen ⊢; omega)
 generalize psV 1 (x.dat.nbs.map Nb.mar) ++ psV 1 (x.dat.his.map Hi.mar) ++ psV 1 (x.dat.ehs.map Eh.mar) ++ psV 1 (x.dat.sus.map Su.mar) ++ vrV 2 (tempN x.dat.temp) ++ flV 3 x.dat.mono = o5 at c5 cu cs ⊢
 generalize psV 1 (x.dat.nbs.map Nb.mar) ++ psV 1 (x.dat.his.map Hi.mar) ++ psV 1 (x.dat.ehs.map Eh.mar) ++ psV 1 (x.dat.sus.map Su.mar) ++ vrV 2 (tempN x.dat.temp) = o4 at c4 c5
 generalize psV 1 (x.dat.nbs.map Nb.mar) ++ psV 1 (x.dat.his.map Hi.mar) ++ psV 1 (x.dat.ehs.map Eh.mar) ++ psV 1 (x.dat.sus.map Su.mar) = o3 at c3 c4
 generalize psV 1 (x.dat.nbs.map Nb.mar) ++ psV 1 (x.dat.his.map Hi.mar) ++ psV 1 (x.dat.ehs.map Eh.mar) = o2 at c2 c3
 generalize psV 1 (x.dat.nbs.map Nb.mar) ++ psV 1 (x.dat.his.map Hi.mar) = o1 at c1 c2
 generalize psV 1 (x.dat.nbs.map Nb.mar) = o0 at c0 c1
 refine l_bw Tryz.func56 0 [] ?_
 refine l_wr [1] (c0) k'31 ha0 ?_
 refine l_wr [1] (c1) ha0 ha1 ?_
 refine l_wr [1] (c2) ha1 ha2 ?_
 refine l_wr [1] (c3) ha2 ha3 ?_
 rw [temp_u64 w_temp.1 w_temp.2]
 refine l_wr [1] (c4) ha3 ha4 ?_
 refine l_wr [1] (c5) ha4 ha5 ?_
 refine l_wr [1] (cu) ha5 (.inl rfl) ?_
 refine k'1r [1] (cs) rfl rfl rfl rfl rfl rfl rfl (by decide) (by simp [k'5 (.inl rfl)]) rfl rfl rfl rfl ?_
 exact Z
theorem onV_pos {k : Int} {x : In} (h1 : 0 < k) (h2 : k ≤ 5) : onV k x = paV (numK k) x.mar := by unfold onV; rw [if_pos ⟨by omega, h2⟩]
theorem onV_no {k : Int} {x : In} (h1 : ¬ 0 < k) : onV k x = [] := by unfold onV; rw [if_neg fun h => by have := h.1; omega]
set_option maxHeartbeats 4000000 in
theorem k'3u (x : Me) (xa : D) (d : Int) (hbig : x.sz < big) (hwf : x.wf) (hx : x.R xa) (hd1 : -9223372036854775808 ≤ d) (hd2 : d < 9223372036854775808) : k'0 (cx B) 12 [.d xa, .d (.int .i64 d)] [] (if x.may d then .tup [sT x.mar, .d .nili] else .tup [sT [], .d (Er.code 8).d]) [] := by
 have hm := Me_May_calls B x xa d hbig hx hd1 hd2
 have hlen := Me.mar_len x
 have hlen : x.mar.length < big := by omega
 have hxR := hx
 have hbig0 := hbig
 obtain ⟨z_nbs, l_nbs, z_his, l_his, z_ehs, l_ehs, z_sus, l_sus, z_mets, l_mets, rfl, r_nbs, r_his, r_ehs, r_sus, r_mets⟩ := hx
 unfold Me.sz at hbig
 cases hc : x.may d
 ·rw [hc] at hm
  refine l_bw Tryz.func12 0 [] ?_
  refine k'2 [] (hm) rfl rfl rfl ?_
  exact Z
 rw [hc] at hm
 have hc' := hc
 unfold Me.may at hc'
 simp only [Bool.and_eq_true, decide_eq_true_eq] at hc'
 obtain ⟨⟨⟨⟨⟨⟨hd, m_dat⟩, -⟩, -⟩, -⟩, m_mets⟩, hu⟩ := hc'
 obtain ⟨w_dat, w_mets⟩ := hwf
 unfold Me.mar Me.hb at hlen ⊢
 unfold mayOn at m_dat
 simp only [Bool.and_eq_true, decide_eq_true_eq] at m_dat
 obtain ⟨⟨⟨k1, k2⟩, -⟩, m_dat⟩ := m_dat
 by_cases hk : 0 < x.kind
 ·rw [if_neg (by omega)] at m_dat
  have hpt : 0 ≤ d - 1 ∧ x.dat.pts (d - 1 - 1) = true := by
   unfold mayI at m_dat
   simp only [Bool.and_eq_true, decide_eq_true_eq] at m_dat
   exact m_dat.1
  have c_w := mwrite_calls B x _ (d - 1) hbig0 w_dat hpt.2 hxR hpt.1 (by omega)
  have c_n := numberOf_calls B x.kind
  obtain ⟨-, -, n1, n2, -⟩ := numK_ok (k := x.kind) ⟨by omega, k2⟩
  rw [onV_pos hk k2] at hlen ⊢
  obtain ⟨a0, ha0, c0⟩ := k'3g B 1 x.name (by omega) (by omega) (.nw 122 2) [] k'31 (by simp only [List.length_append, List.length_nil] at hlen ⊢; omega)
  rw [List.nil_append] at c0
  obtain ⟨a1, ha1, c1⟩ := k'3g B 2 x.desc (by omega) (by omega) (a0) (txV 1 x.name) ha0 (by simp only [List.length_append, List.length_nil] at hlen ⊢; omega)
  obtain ⟨a2, ha2, c2⟩ := k'3g B 3 x.unit (by omega) (by omega) (a1) (txV 1 x.name ++ txV 2 x.desc) ha1 (by simp only [List.length_append, List.length_nil] at hlen ⊢; omega)
  obtain ⟨a3, ha3, c3⟩ := wr_part B (numK x.kind) x.dat.mar n1 n2 (a2) (txV 1 x.name ++ txV 2 x.desc ++ txV 3 x.unit) ha2 (by simp only [List.length_append, List.length_nil] at hlen ⊢; omega)
  obtain ⟨a4, ha4, c4⟩ := k'38 B 12 (by omega) (by omega) z_mets d (by omega) w_mets m_mets hd hd2 r_mets (a3) (txV 1 x.name ++ txV 2 x.desc ++ txV 3 x.unit ++ paV (numK x.kind) x.dat.mar) ha3 (by simp only [List.length_append, List.length_nil] at hlen ⊢; omega)
  obtain ⟨cu, cs⟩ := k'2x B (s := x.u) ha4 (l := txV 1 x.name ++ txV 2 x.desc ++ txV 3 x.unit ++ paV (numK x.kind) x.dat.mar ++ psV 12 (Kv.mars x.mets)) (by simp only [List.length_append] at hlen ⊢; omega)
  generalize txV 1 x.name ++ txV 2 x.desc ++ txV 3 x.unit ++ paV (numK x.kind) x.dat.mar ++ psV 12 (Kv.mars x.mets) = o4 at c4 cu cs ⊢
  generalize txV 1 x.name ++ txV 2 x.desc ++ txV 3 x.unit ++ paV (numK x.kind) x.dat.mar = o3 at c3 c4
  generalize txV 1 x.name ++ txV 2 x.desc ++ txV 3 x.unit = o2 at c2 c3
  generalize txV 1 x.name ++ txV 2 x.desc = o1 at c1 c2
  generalize txV 1 x.name = o0 at c0 c1
  refine l_bw Tryz.func12 0 [] ?_
  refine l_cw [] (hm) rfl rfl rfl ?_
  refine l_wr [1] (c0) k'31 ha0 ?_
  refine l_wr [1] (c1) ha0 ha1 ?_
  refine l_wr [1] (c2) ha1 ha2 ?_
  rw [show decide (x.kind > 0) = true from decide_eq_true hk]
  refine Y ?_
  refine x_cw [] (c_n) rfl rfl rfl ?_
  rw [k'4 1 (by omega) (by omega) (by omega) hd2]
  refine x_cw [] (c_w) rfl rfl rfl ?_
  refine x_call [1] (c3) rfl rfl rfl rfl rfl rfl (by decide) (by simp [k'5 ha2]) (by simp [k'5 ha3]) rfl rfl rfl rfl ?_
  refine Y ?_
  refine l_wr [1] (c4) ha3 ha4 ?_
  refine l_wr [1] (cu) ha4 (.inl rfl) ?_
  refine k'1r [1] (cs) rfl rfl rfl rfl rfl rfl rfl (by decide) (by simp [k'5 (.inl rfl)]) rfl rfl rfl rfl ?_
  exact Z
 ·rw [onV_no hk, List.append_nil] at hlen ⊢
  obtain ⟨a0, ha0, c0⟩ := k'3g B 1 x.name (by omega) (by omega) (.nw 122 2) [] k'31 (by simp only [List.length_append, List.length_nil] at hlen ⊢; omega)
  rw [List.nil_append] at c0
  obtain ⟨a1, ha1, c1⟩ := k'3g B 2 x.desc (by omega) (by omega) (a0) (txV 1 x.name) ha0 (by simp only [List.length_append, List.length_nil] at hlen ⊢; omega)
  obtain ⟨a2, ha2, c2⟩ := k'3g B 3 x.unit (by omega) (by omega) (a1) (txV 1 x.name ++ txV 2 x.desc) ha1 (by simp only [List.length_append, List.length_nil] at hlen ⊢; omega)
  obtain ⟨a3, ha3, c3⟩ := k'38 B 12 (by omega) (by omega) z_mets d (by omega) w_mets m_mets hd hd2 r_mets (a2) (txV 1 x.name ++ txV 2 x.desc ++ txV 3 x.unit) ha2 (by simp only [List.length_append, List.length_nil] at hlen ⊢; omega)
  obtain ⟨cu, cs⟩ := k'2x B (s := x.u) ha3 (l := txV 1 x.name ++ txV 2 x.desc ++ txV 3 x.unit ++ psV 12 (Kv.mars x.mets)) (by simp only [List.length_append] at hlen ⊢; omega)
  generalize txV 1 x.name ++ txV 2 x.desc ++ txV 3 x.unit ++ psV 12 (Kv.mars x.mets) = o3 at c3 cu cs ⊢
  generalize txV 1 x.name ++ txV 2 x.desc ++ txV 3 x.unit = o2 at c2 c3
  generalize txV 1 x.name ++ txV 2 x.desc = o1 at c1 c2
  generalize txV 1 x.name = o0 at c0 c1
  refine l_bw Tryz.func12 0 [] ?_
  refine l_cw [] (hm) rfl rfl rfl ?_
  refine l_wr [1] (c0) k'31 ha0 ?_
  refine l_wr [1] (c1) ha0 ha1 ?_
  refine l_wr [1] (c2) ha1 ha2 ?_
  rw [show decide (x.kind > 0) = false from decide_eq_false (by omega)]
  refine Y ?_
  refine l_wr [1] (c3) ha2 ha3 ?_
  refine l_wr [1] (cu) ha3 (.inl rfl) ?_
  refine k'1r [1] (cs) rfl rfl rfl rfl rfl rfl rfl (by decide) (by simp [k'5 (.inl rfl)]) rfl rfl rfl rfl ?_
  exact Z
theorem Me_Size_calls (x : Me) (xa : D) (hbig : x.sz < big) (hwf : x.wf) (hx : x.R xa) (hm : x.may 1073741824 = true) : k'0 (cx B) 15 [.d xa] [] (iT x.mar.length) [] := by
 have h := k'3u B x xa 1073741824 hbig hwf hx (by omega) (by omega)
 rw [if_pos hm] at h
 obtain ⟨a0, a1, a2, a3, a4, a5, a6, a7, a8, a9, a10, a11, a12, a13, a14, a15, a16, a17, rfl⟩ := Me.R_sh hx
 refine l_bw Tryz.func15 0 [] ?_
 refine k'2 [] (h) rfl rfl rfl ?_
 exact Z
end
