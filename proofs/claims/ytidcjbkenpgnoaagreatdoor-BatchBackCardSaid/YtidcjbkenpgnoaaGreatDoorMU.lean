/- Metrics: alike, may they be, written. -/
import Derived.Test.YtidcjbkenpgnoaaGreatDoorMJ
set_option linter.unusedSimpArgs false
set_option linter.unusedVariables false
set_option maxRecDepth 100000
namespace Go.Proofs.YtidcjbkenpgnoaaGreatDoor
open Go Go.Abs
variable (B : Fr)
section
theorem alike_calls (x y : Me) (xa ya : D) (hbig : x.sz < big) (hx : x.R xa) (hy : y.R ya) : k'0 (cx B) 235 [.d xa, .d ya] [] (.d (.bool (x.name == y.name && x.desc == y.desc && x.unit == y.unit && x.kind == y.kind && x.dat.temp == y.dat.temp && x.dat.mono == y.dat.mono && x.dat.u == y.dat.u && x.u == y.u && Kv.eqs x.mets y.mets))) [] := by
 obtain ⟨z_nbs, l_nbs, z_his, l_his, z_ehs, l_ehs, z_sus, l_sus, z_mets, l_mets, rfl, r_nbs, r_his, r_ehs, r_sus, r_mets⟩ := hx
 obtain ⟨y_nbs, m_nbs, y_his, m_his, y_ehs, m_ehs, y_sus, m_sus, y_mets, m_mets, rfl, s_nbs, s_his, s_ehs, s_sus, s_mets⟩ := hy
 unfold Me.sz In.sz at hbig
 have c_mets := k'1a B (a := x.mets) (b := y.mets) z_mets y_mets (by omega) r_mets s_mets
 refine l_bw Tryz.func235 0 [] ?_
 cases e0 : (x.name == y.name)
 ·exact Z
 refine Y ?_
 cases e1 : (x.desc == y.desc)
 ·exact Z
 refine Y ?_
 cases e2 : (x.unit == y.unit)
 ·exact Z
 refine Y ?_
 cases e3 : (x.kind == y.kind)
 ·exact Z
 refine Y ?_
 cases e4 : (x.dat.temp == y.dat.temp)
 ·exact Z
 refine Y ?_
 cases e5 : (x.dat.mono == y.dat.mono)
 ·exact Z
 refine Y ?_
 cases e6 : (x.dat.u == y.dat.u)
 ·exact Z
 refine Y ?_
 cases e7 : (x.u == y.u)
 ·exact Z
 refine Y ?_
 refine k'8 [] (c_mets) rfl rfl rfl rfl rfl ?_
 exact Z
theorem Me_Same_calls (x y : Me) (xa ya : D) (hbig : x.sz < big) (hx : x.R xa) (hy : y.R ya) : k'0 (cx B) 177 [.d xa, .d ya] [] (.d (.bool (x.eq y))) [] := by
 have c_al := alike_calls B x y xa ya hbig hx hy
 obtain ⟨z_nbs, l_nbs, z_his, l_his, z_ehs, l_ehs, z_sus, l_sus, z_mets, l_mets, rfl, r_nbs, r_his, r_ehs, r_sus, r_mets⟩ := hx
 obtain ⟨y_nbs, m_nbs, y_his, m_his, y_ehs, m_ehs, y_sus, m_sus, y_mets, m_mets, rfl, s_nbs, s_his, s_ehs, s_sus, s_mets⟩ := hy
 unfold Me.sz In.sz at hbig
 have c_nbs := EqF_Nb_R B z_nbs y_nbs (by omega) r_nbs s_nbs
 have c_his := EqF_Hi_R B z_his y_his (by omega) r_his s_his
 have c_ehs := EqF_Eh_R B z_ehs y_ehs (by omega) r_ehs s_ehs
 have c_sus := EqF_Su_R B z_sus y_sus (by omega) r_sus s_sus
 rw [show x.eq y = ((x.name == y.name && x.desc == y.desc && x.unit == y.unit && x.kind == y.kind && x.dat.temp == y.dat.temp && x.dat.mono == y.dat.mono && x.dat.u == y.dat.u && x.u == y.u && Kv.eqs x.mets y.mets) && Nb.eqs x.dat.nbs y.dat.nbs && Hi.eqs x.dat.his y.dat.his && Eh.eqs x.dat.ehs y.dat.ehs && Su.eqs x.dat.sus y.dat.sus) by unfold Me.eq In.eq; ac_rfl]
 generalize (x.name == y.name && x.desc == y.desc && x.unit == y.unit && x.kind == y.kind && x.dat.temp == y.dat.temp && x.dat.mono == y.dat.mono && x.dat.u == y.dat.u && x.u == y.u && Kv.eqs x.mets y.mets) = AL at *
 refine l_bw Tryz.func177 0 [] ?_
 refine l_cw [] (c_al) rfl rfl rfl ?_
 cases e0 : (AL)
 ·exact Z
 refine Y ?_
 refine k'1w [] (c_nbs) rfl rfl rfl rfl rfl ?_
 cases e1 : (Nb.eqs x.dat.nbs y.dat.nbs)
 ·exact Z
 refine Y ?_
 refine k'1w [] (c_his) rfl rfl rfl rfl rfl ?_
 cases e2 : (Hi.eqs x.dat.his y.dat.his)
 ·exact Z
 refine Y ?_
 refine k'1w [] (c_ehs) rfl rfl rfl rfl rfl ?_
 cases e3 : (Eh.eqs x.dat.ehs y.dat.ehs)
 ·exact Z
 refine Y ?_
 refine k'8 [] (c_sus) rfl rfl rfl rfl rfl ?_
 exact Z
theorem EqF_Me_calls : EqFP B 176 MeSh := EqF_mk B Tryz.func176
set_option maxHeartbeats 4000000 in
theorem mmay_calls (x : Me) (xa : D) (d : Int) (hbig : x.sz < big) (hx : x.R xa) (hd1 : -9223372036854775808 ≤ d) (hd2 : d < 9223372036854775808) : k'0 (cx B) 197 [.d xa, .d (.int .i64 d)] [] (.d (.bool (mayI x.kind x.dat d))) [] := by
 obtain ⟨z_nbs, l_nbs, z_his, l_his, z_ehs, l_ehs, z_sus, l_sus, z_mets, l_mets, rfl, r_nbs, r_his, r_ehs, r_sus, r_mets⟩ := hx
 unfold Me.sz In.sz at hbig
 have c_u := Rest_cap B 352 [.box [.int .i64 x.kind]] (tbI x.kind) (innerT B x.kind) x.dat.u d (by omega) (by omega) hd2
 have c_i := inner_calls B x.kind
 have q_nbs : 0 ≤ d → k'0 (cx B) 252 [.d (.sl z_nbs l_nbs), .d (.int .i64 d), .d (.fn 253 [])] [] (.d (.bool (x.dat.nbs.all fun k => k.may (d - 1)))) [] := fun h => All_Nb_R B z_nbs d (by omega) h hd2 r_nbs
 have q_his : 0 ≤ d → k'0 (cx B) 254 [.d (.sl z_his l_his), .d (.int .i64 d), .d (.fn 255 [])] [] (.d (.bool (x.dat.his.all fun k => k.may (d - 1)))) [] := fun h => All_Hi_R B z_his d (by omega) h hd2 r_his
 have q_ehs : 0 ≤ d → k'0 (cx B) 256 [.d (.sl z_ehs l_ehs), .d (.int .i64 d), .d (.fn 257 [])] [] (.d (.bool (x.dat.ehs.all fun k => k.may (d - 1)))) [] := fun h => All_Eh_R B z_ehs d (by omega) h hd2 r_ehs
 have q_sus : 0 ≤ d → k'0 (cx B) 258 [.d (.sl z_sus l_sus), .d (.int .i64 d), .d (.fn 259 [])] [] (.d (.bool (x.dat.sus.all fun k => k.may (d - 1)))) [] := fun h => All_Su_R B z_sus d (by omega) h hd2 r_sus
 have hR : mayI x.kind x.dat d = (decide (d ≥ 0) && ((x.dat.nbs.all fun k => k.may (d - 1)) && ((x.dat.his.all fun k => k.may (d - 1)) && ((x.dat.ehs.all fun k => k.may (d - 1)) && ((x.dat.sus.all fun k => k.may (d - 1)) && k'1s (tbI x.kind) x.dat.u d))))) := by
  unfold mayI In.pts
  rw [show decide (d ≥ 0) = decide (0 ≤ d) from rfl]
  simp only [Bool.and_assoc]
 rw [hR]
 clear hR
 generalize k'1s (tbI x.kind) x.dat.u d = RU at *
 refine l_bw Tryz.func197 0 [] ?_
 (repeat ((with_reducible refine k'1m ?_); first | refine k'35 rfl rfl ?_ | refine k'29 rfl rfl rfl ?_ | refine k'30 rfl rfl rfl rfl rfl rfl ?_))
 cases hd : decide (d ≥ 0)
 ·(repeat ((with_reducible refine k'1m ?_); first | refine k'35 rfl rfl ?_ | refine k'29 rfl rfl rfl ?_ | refine k'30 rfl rfl rfl rfl rfl rfl ?_))
  exact Z
 have hd0 : 0 ≤ d := of_decide_eq_true hd
 replace q_nbs := q_nbs hd0
 replace q_his := q_his hd0
 replace q_ehs := q_ehs hd0
 replace q_sus := q_sus hd0
 (repeat ((with_reducible refine k'1m ?_); first | refine k'35 rfl rfl ?_ | refine k'29 rfl rfl rfl ?_ | refine k'30 rfl rfl rfl rfl rfl rfl ?_))
 refine Y ?_
 refine k'1v [] (q_nbs) rfl rfl rfl ?_
 (repeat ((with_reducible refine k'1m ?_); first | refine k'35 rfl rfl ?_ | refine k'29 rfl rfl rfl ?_ | refine k'30 rfl rfl rfl rfl rfl rfl ?_))
 refine Y ?_
 cases h_nbs : (x.dat.nbs.all fun k => k.may (d - 1))
 ·(repeat ((with_reducible refine k'1m ?_); first | refine k'35 rfl rfl ?_ | refine k'29 rfl rfl rfl ?_ | refine k'30 rfl rfl rfl rfl rfl rfl ?_))
  exact Z
 (repeat ((with_reducible refine k'1m ?_); first | refine k'35 rfl rfl ?_ | refine k'29 rfl rfl rfl ?_ | refine k'30 rfl rfl rfl rfl rfl rfl ?_))
 refine Y ?_
 refine k'1v [] (q_his) rfl rfl rfl ?_
 (repeat ((with_reducible refine k'1m ?_); first | refine k'35 rfl rfl ?_ | refine k'29 rfl rfl rfl ?_ | refine k'30 rfl rfl rfl rfl rfl rfl ?_))
 refine Y ?_
 cases h_his : (x.dat.his.all fun k => k.may (d - 1))
 ·(repeat ((with_reducible refine k'1m ?_); first | refine k'35 rfl rfl ?_ | refine k'29 rfl rfl rfl ?_ | refine k'30 rfl rfl rfl rfl rfl rfl ?_))
  exact Z
 (repeat ((with_reducible refine k'1m ?_); first | refine k'35 rfl rfl ?_ | refine k'29 rfl rfl rfl ?_ | refine k'30 rfl rfl rfl rfl rfl rfl ?_))
 refine Y ?_
 refine k'1v [] (q_ehs) rfl rfl rfl ?_
 (repeat ((with_reducible refine k'1m ?_); first | refine k'35 rfl rfl ?_ | refine k'29 rfl rfl rfl ?_ | refine k'30 rfl rfl rfl rfl rfl rfl ?_))
 refine Y ?_
 cases h_ehs : (x.dat.ehs.all fun k => k.may (d - 1))
 ·(repeat ((with_reducible refine k'1m ?_); first | refine k'35 rfl rfl ?_ | refine k'29 rfl rfl rfl ?_ | refine k'30 rfl rfl rfl rfl rfl rfl ?_))
  exact Z
 (repeat ((with_reducible refine k'1m ?_); first | refine k'35 rfl rfl ?_ | refine k'29 rfl rfl rfl ?_ | refine k'30 rfl rfl rfl rfl rfl rfl ?_))
 refine Y ?_
 refine k'1v [] (q_sus) rfl rfl rfl ?_
 (repeat ((with_reducible refine k'1m ?_); first | refine k'35 rfl rfl ?_ | refine k'29 rfl rfl rfl ?_ | refine k'30 rfl rfl rfl rfl rfl rfl ?_))
 refine Y ?_
 cases h_sus : (x.dat.sus.all fun k => k.may (d - 1))
 ·(repeat ((with_reducible refine k'1m ?_); first | refine k'35 rfl rfl ?_ | refine k'29 rfl rfl rfl ?_ | refine k'30 rfl rfl rfl rfl rfl rfl ?_))
  exact Z
 (repeat ((with_reducible refine k'1m ?_); first | refine k'35 rfl rfl ?_ | refine k'29 rfl rfl rfl ?_ | refine k'30 rfl rfl rfl rfl rfl rfl ?_))
 refine Y ?_
 refine k'1v [] (c_i) rfl rfl rfl ?_
 (repeat ((with_reducible refine k'1m ?_); first | refine k'35 rfl rfl ?_ | refine k'29 rfl rfl rfl ?_ | refine k'30 rfl rfl rfl rfl rfl rfl ?_))
 refine Y ?_
 refine k'1v [] (c_u) rfl rfl rfl ?_
 (repeat ((with_reducible refine k'1m ?_); first | refine k'35 rfl rfl ?_ | refine k'29 rfl rfl rfl ?_ | refine k'30 rfl rfl rfl rfl rfl rfl ?_))
 exact Z
set_option maxHeartbeats 4000000 in
theorem Me_May_calls (x : Me) (xa : D) (d : Int) (hbig : x.sz < big) (hx : x.R xa) (hd1 : -9223372036854775808 ≤ d) (hd2 : d < 9223372036854775808) : k'0 (cx B) 148 [.d xa, .d (.int .i64 d)] [] (.d (.bool (x.may d))) [] := by
 have c_b := mbare_calls B x xa hx
 have q_m : 0 ≤ d → k'0 (cx B) 197 [.d xa, .d (.int .i64 (d - 1))] [] (.d (.bool (mayI x.kind x.dat (d - 1)))) [] := fun h => mmay_calls B x xa (d - 1) hbig hx (by omega) (by omega)
 obtain ⟨z_nbs, l_nbs, z_his, l_his, z_ehs, l_ehs, z_sus, l_sus, z_mets, l_mets, rfl, r_nbs, r_his, r_ehs, r_sus, r_mets⟩ := hx
 unfold Me.sz at hbig
 have c_name := k'1j B x.name (by omega)
 have c_desc := k'1j B x.desc (by omega)
 have c_unit := k'1j B x.unit (by omega)
 have q_k : 0 ≤ d → k'0 (cx B) 141 [.d (.sl z_mets l_mets), .d (.int .i64 (d - 1))] [] (.d (.bool (x.mets.all fun k => k.may (d - 1)))) [] := fun h => k'1f B (a := x.mets) z_mets (d - 1) (by omega) (by omega) (by omega) r_mets
 have c_u := k't B 198 tbM (tbM_calls B) x.u d (by omega) (by omega) hd2
 have hR : x.may d = (!decide (d < 0) && (bareM x.kind x.dat && ((!decide (x.kind > 0) || mayI x.kind x.dat (d - 1)) && (txt x.name && (txt x.desc && (txt x.unit && ((x.mets.all fun k => k.may (d - 1)) && k'1s tbM x.u d))))))) := by
  unfold Me.may
  rw [mayOn_bare, show decide (0 ≤ d) = !decide (d < 0) by by_cases h : d < 0 <;> simp [h] <;> omega]
  simp only [Bool.and_assoc]
 rw [hR]
 clear hR
 generalize bareM x.kind x.dat = BM at *
 generalize mayI x.kind x.dat (d - 1) = MI at *
 generalize k'1s tbM x.u d = RU at *
 refine l_bw Tryz.func148 0 [] ?_
 cases hd : decide (d < 0)
 rotate_left
 ·exact Z
 have hd0 : 0 ≤ d := by have := of_decide_eq_false hd; omega
 replace q_m := q_m hd0
 replace q_k := q_k hd0
 refine Y ?_
 refine k'1w [] (c_b) rfl rfl rfl rfl rfl ?_
 cases BM
 ·exact Z
 refine Y ?_
 cases hk : decide (x.kind > 0)
 ·refine Y ?_
  refine l_cw [] (c_name) rfl rfl rfl ?_
  cases e0 : (txt x.name)
  ·exact Z
  refine Y ?_
  refine k'1w [] (c_desc) rfl rfl rfl rfl rfl ?_
  cases e1 : (txt x.desc)
  ·exact Z
  refine Y ?_
  refine k'1w [] (c_unit) rfl rfl rfl rfl rfl ?_
  cases e2 : (txt x.unit)
  ·exact Z
  refine Y ?_
  rw [k'11 1 (by omega) (by omega) (by omega) hd2]
  refine k'1w [] (q_k) rfl rfl rfl rfl rfl ?_
  cases e3 : (x.mets.all fun k => k.may (d - 1))
  ·exact Z
  refine Y ?_
  refine k'8 [] (c_u) rfl rfl rfl rfl rfl ?_
  exact Z
 refine Y ?_
 rw [k'11 1 (by omega) (by omega) (by omega) hd2]
 refine k'1w [] (q_m) rfl rfl rfl rfl rfl ?_
 cases MI
 ·exact Z
 refine Y ?_
 refine l_cw [] (c_name) rfl rfl rfl ?_
 cases e0 : (txt x.name)
 ·exact Z
 refine Y ?_
 refine k'1w [] (c_desc) rfl rfl rfl rfl rfl ?_
 cases e1 : (txt x.desc)
 ·exact Z
 refine Y ?_
 refine k'1w [] (c_unit) rfl rfl rfl rfl rfl ?_
 cases e2 : (txt x.unit)
 ·exact Z
 refine Y ?_
 rw [k'11 1 (by omega) (by omega) (by omega) hd2]
 refine k'1w [] (q_k) rfl rfl rfl rfl rfl ?_
 cases e3 : (x.mets.all fun k => k.may (d - 1))
 ·exact Z
 refine Y ?_
 refine k'8 [] (c_u) rfl rfl rfl rfl rfl ?_
 exact Z
theorem All_Me_calls : AllP B 147 MeSh := All_of B (All1_mk B Tryz.func195) (k'2m B Tryz.func250) (Cont_mk B Tryz.func194) (Allc_mk B Tryz.func147)
theorem wr_flag (h : Bool) (n : Nat) (h1 : 1 ≤ n) (h2 : n ≤ 536870911) : Wr B 323 [iT n, .d (.bool h)] (flV n h) := fun a l ha hl => by
 cases h
 ·refine ⟨a, ha, ?_⟩
  rw [show flV n false = [] from rfl, List.append_nil]
  rcases ha with rfl | rfl | rfl <;> (rcases l with _ | ⟨c, l⟩ <;> (
  refine l_b0 Tryz.func323 1 [] ?_
  exact Z))
 rw [show flV n true = fewV n 1 from rfl] at hl ⊢
 obtain ⟨a', ha', h3⟩ := wr_few B n 1 h1 h2 (by omega) a l ha hl
 refine ⟨a', ha', ?_⟩
 generalize l ++ fewV n 1 = y at *
 rcases ha with rfl | rfl | rfl <;> (rcases ha' with rfl | rfl | rfl <;> (rcases l with _ | ⟨c, l⟩ <;> (rcases y with _ | ⟨c', y⟩ <;> (
 refine l_bw Tryz.func323 1 [] ?_
 refine k'1 [0] (h3) rfl rfl rfl ?_
 exact Z))))
theorem temp_u64 {t : Int} (h1 : -2147483648 ≤ t) (h2 : t < 2147483648) : IntKind.u64.wrap (IntKind.i64.wrap t) = (k'53 t : Int) := by
 rw [k'39 (by omega) (by omega)]
 unfold k'53
 rw [IntKind.wrap_u64]
 by_cases h : t < 0
 ·rw [if_pos h]; omega
 ·rw [if_neg h]; omega
theorem mwrite_calls (x : Me) (xa : D) (d : Int) (hbig : x.sz < big) (hwf : x.dat.wf) (hp : x.dat.pts (d - 1) = true) (hx : x.R xa) (hd1 : 0 ≤ d) (hd2 : d < 9223372036854775808) : k'0 (cx B) 245 [.d xa, .d (.int .i64 d)] [] (sT x.dat.mar) [] := by
 have hlen := x.dat.mar_len
 obtain ⟨z_nbs, l_nbs, z_his, l_his, z_ehs, l_ehs, z_sus, l_sus, z_mets, l_mets, rfl, r_nbs, r_his, r_ehs, r_sus, r_mets⟩ := hx
 unfold Me.sz at hbig
 have hlen : x.dat.mar.length < big := by omega
 unfold In.sz at hbig
 unfold In.pts at hp
 simp only [Bool.and_eq_true] at hp
 obtain ⟨⟨⟨m_nbs, m_his⟩, m_ehs⟩, m_sus⟩ := hp
 obtain ⟨w_nbs, w_his, w_ehs, w_sus, w_temp⟩ := hwf
 unfold In.mar In.hb at hlen ⊢
 obtain ⟨a0, ha0, c0⟩ := Parts_Nb_R B 1 (by omega) (by omega) z_nbs d (by omega) w_nbs m_nbs hd1 hd2 r_nbs (.nw 71 2) [] k'22 (by simp only [List.length_append, List.length_nil] at hlen ⊢; omega)
 rw [List.nil_append] at c0
 obtain ⟨a1, ha1, c1⟩ := Parts_Hi_R B 1 (by omega) (by omega) z_his d (by omega) w_his m_his hd1 hd2 r_his (a0) (psV 1 (x.dat.nbs.map Nb.mar)) ha0 (by simp only [List.length_append, List.length_nil] at hlen ⊢; omega)
 obtain ⟨a2, ha2, c2⟩ := Parts_Eh_R B 1 (by omega) (by omega) z_ehs d (by omega) w_ehs m_ehs hd1 hd2 r_ehs (a1) (psV 1 (x.dat.nbs.map Nb.mar) ++ psV 1 (x.dat.his.map Hi.mar)) ha1 (by simp only [List.length_append, List.length_nil] at hlen ⊢; omega)
 obtain ⟨a3, ha3, c3⟩ := Parts_Su_R B 1 (by omega) (by omega) z_sus d (by omega) w_sus m_sus hd1 hd2 r_sus (a2) (psV 1 (x.dat.nbs.map Nb.mar) ++ psV 1 (x.dat.his.map Hi.mar) ++ psV 1 (x.dat.ehs.map Eh.mar)) ha2 (by simp only [List.length_append, List.length_nil] at hlen ⊢; omega)
 obtain ⟨a4, ha4, c4⟩ := wr_var B 2 (k'53 x.dat.temp) (by omega) (by omega) (tempN_lt w_temp.1 w_temp.2) (a3) (psV 1 (x.dat.nbs.map Nb.mar) ++ psV 1 (x.dat.his.map Hi.mar) ++ psV 1 (x.dat.ehs.map Eh.mar) ++ psV 1 (x.dat.sus.map Su.mar)) ha3 (by simp only [List.length_append, List.length_nil] at hlen ⊢; omega)
 obtain ⟨a5, ha5, c5⟩ := wr_flag B x.dat.mono 3 (by omega) (by omega) (a4) (psV 1 (x.dat.nbs.map Nb.mar) ++ psV 1 (x.dat.his.map Hi.mar) ++ psV 1 (x.dat.ehs.map Eh.mar) ++ psV 1 (x.dat.sus.map Su.mar) ++ vrV 2 (k'53 x.dat.temp)) ha4 (by simp only [List.length_append, List.length_nil] at hlen ⊢; omega)
 obtain ⟨cu, cs⟩ := k'26 B (s := x.dat.u) ha5 (l := psV 1 (x.dat.nbs.map Nb.mar) ++ psV 1 (x.dat.his.map Hi.mar) ++ psV 1 (x.dat.ehs.map Eh.mar) ++ psV 1 (x.dat.sus.map Su.mar) ++ vrV 2 (k'53 x.dat.temp) ++ flV 3 x.dat.mono) (by simp only [List.length_append] at hlen ⊢; omega)
 generalize psV 1 (x.dat.nbs.map Nb.mar) ++ psV 1 (x.dat.his.map Hi.mar) ++ psV 1 (x.dat.ehs.map Eh.mar) ++ psV 1 (x.dat.sus.map Su.mar) ++ vrV 2 (k'53 x.dat.temp) ++ flV 3 x.dat.mono = o5 at c5 cu cs ⊢
 generalize psV 1 (x.dat.nbs.map Nb.mar) ++ psV 1 (x.dat.his.map Hi.mar) ++ psV 1 (x.dat.ehs.map Eh.mar) ++ psV 1 (x.dat.sus.map Su.mar) ++ vrV 2 (k'53 x.dat.temp) = o4 at c4 c5
 generalize psV 1 (x.dat.nbs.map Nb.mar) ++ psV 1 (x.dat.his.map Hi.mar) ++ psV 1 (x.dat.ehs.map Eh.mar) ++ psV 1 (x.dat.sus.map Su.mar) = o3 at c3 c4
 generalize psV 1 (x.dat.nbs.map Nb.mar) ++ psV 1 (x.dat.his.map Hi.mar) ++ psV 1 (x.dat.ehs.map Eh.mar) = o2 at c2 c3
 generalize psV 1 (x.dat.nbs.map Nb.mar) ++ psV 1 (x.dat.his.map Hi.mar) = o1 at c1 c2
 generalize psV 1 (x.dat.nbs.map Nb.mar) = o0 at c0 c1
 refine l_bw Tryz.func245 0 [] ?_
 refine l_wr [1] (c0) k'22 ha0 ?_
 refine l_wr [1] (c1) ha0 ha1 ?_
 refine l_wr [1] (c2) ha1 ha2 ?_
 refine l_wr [1] (c3) ha2 ha3 ?_
 rw [temp_u64 w_temp.1 w_temp.2]
 refine l_wr [1] (c4) ha3 ha4 ?_
 refine l_wr [1] (c5) ha4 ha5 ?_
 refine l_wr [1] (cu) ha5 (.inl rfl) ?_
 refine k'1g [1] (cs) rfl rfl rfl rfl rfl rfl rfl (by decide) (by simp [k'5 (.inl rfl)]) rfl rfl rfl rfl ?_
 exact Z
theorem onV_pos {k : Int} {x : In} (h1 : 0 < k) (h2 : k ≤ 5) : onV k x = paV (numK k) x.mar := by unfold onV; rw [if_pos ⟨by omega, h2⟩]
theorem onV_no {k : Int} {x : In} (h1 : ¬ 0 < k) : onV k x = [] := by unfold onV; rw [if_neg fun h => by have := h.1; omega]
set_option maxHeartbeats 4000000 in
theorem Me_Marshal_calls (x : Me) (xa : D) (d : Int) (hbig : x.sz < big) (hwf : x.wf) (hx : x.R xa) (hd1 : -9223372036854775808 ≤ d) (hd2 : d < 9223372036854775808) : k'0 (cx B) 185 [.d xa, .d (.int .i64 d)] [] (if x.may d then .tup [sT x.mar, .d .nili] else .tup [sT [], .d (Er.code 8).d]) [] := by
 have hm := Me_May_calls B x xa d hbig hx hd1 hd2
 have hlen := Me.mar_len x
 have hlen : x.mar.length < big := by omega
 have hxR := hx
 have hbig0 := hbig
 obtain ⟨z_nbs, l_nbs, z_his, l_his, z_ehs, l_ehs, z_sus, l_sus, z_mets, l_mets, rfl, r_nbs, r_his, r_ehs, r_sus, r_mets⟩ := hx
 unfold Me.sz at hbig
 cases hc : x.may d
 ·rw [hc] at hm
  refine l_bw Tryz.func185 0 [] ?_
  refine k'1 [] (hm) rfl rfl rfl ?_
  exact Z
 rw [hc] at hm
 have hc' := hc
 unfold Me.may at hc'
 simp only [Bool.and_eq_true, decide_eq_true_eq] at hc'
 obtain ⟨⟨⟨⟨⟨⟨hd, m_dat⟩, -⟩, -⟩, -⟩, m_mets⟩, hu⟩ := hc'
 obtain ⟨w_dat, w_mets⟩ := hwf
 unfold Me.mar Me.hb at hlen ⊢
 unfold mayOn at m_dat
 simp only [Bool.and_eq_true, decide_eq_true_eq] at m_dat
 obtain ⟨⟨⟨k1, k2⟩, -⟩, m_dat⟩ := m_dat
 by_cases hk : 0 < x.kind
 ·rw [if_neg (by omega)] at m_dat
  have hpt : 0 ≤ d - 1 ∧ x.dat.pts (d - 1 - 1) = true := by
   unfold mayI at m_dat
   simp only [Bool.and_eq_true, decide_eq_true_eq] at m_dat
   exact m_dat.1
  have c_w := mwrite_calls B x _ (d - 1) hbig0 w_dat hpt.2 hxR hpt.1 (by omega)
  have c_n := k'g B x.kind
  obtain ⟨-, -, n1, n2, -⟩ := numK_ok (k := x.kind) ⟨by omega, k2⟩
  rw [onV_pos hk k2] at hlen ⊢
  obtain ⟨a0, ha0, c0⟩ := k'2g B 1 x.name (by omega) (by omega) (.nw 71 2) [] k'22 (by simp only [List.length_append, List.length_nil] at hlen ⊢; omega)
  rw [List.nil_append] at c0
  obtain ⟨a1, ha1, c1⟩ := k'2g B 2 x.desc (by omega) (by omega) (a0) (txV 1 x.name) ha0 (by simp only [List.length_append, List.length_nil] at hlen ⊢; omega)
  obtain ⟨a2, ha2, c2⟩ := k'2g B 3 x.unit (by omega) (by omega) (a1) (txV 1 x.name ++ txV 2 x.desc) ha1 (by simp only [List.length_append, List.length_nil] at hlen ⊢; omega)
  obtain ⟨a3, ha3, c3⟩ := k'56 B (numK x.kind) x.dat.mar n1 n2 (a2) (txV 1 x.name ++ txV 2 x.desc ++ txV 3 x.unit) ha2 (by simp only [List.length_append, List.length_nil] at hlen ⊢; omega)
  obtain ⟨a4, ha4, c4⟩ := k'34 B 12 (by omega) (by omega) z_mets d (by omega) w_mets m_mets hd hd2 r_mets (a3) (txV 1 x.name ++ txV 2 x.desc ++ txV 3 x.unit ++ paV (numK x.kind) x.dat.mar) ha3 (by simp only [List.length_append, List.length_nil] at hlen ⊢; omega)
  obtain ⟨cu, cs⟩ := k'26 B (s := x.u) ha4 (l := txV 1 x.name ++ txV 2 x.desc ++ txV 3 x.unit ++ paV (numK x.kind) x.dat.mar ++ psV 12 (Kv.mars x.mets)) (by simp only [List.length_append] at hlen ⊢; omega)
  generalize txV 1 x.name ++ txV 2 x.desc ++ txV 3 x.unit ++ paV (numK x.kind) x.dat.mar ++ psV 12 (Kv.mars x.mets) = o4 at c4 cu cs ⊢
  generalize txV 1 x.name ++ txV 2 x.desc ++ txV 3 x.unit ++ paV (numK x.kind) x.dat.mar = o3 at c3 c4
  generalize txV 1 x.name ++ txV 2 x.desc ++ txV 3 x.unit = o2 at c2 c3
  generalize txV 1 x.name ++ txV 2 x.desc = o1 at c1 c2
  generalize txV 1 x.name = o0 at c0 c1
  refine l_bw Tryz.func185 0 [] ?_
  refine l_cw [] (hm) rfl rfl rfl ?_
  refine l_wr [1] (c0) k'22 ha0 ?_
  refine l_wr [1] (c1) ha0 ha1 ?_
  refine l_wr [1] (c2) ha1 ha2 ?_
  rw [show decide (x.kind > 0) = true from decide_eq_true hk]
  refine Y ?_
  refine x_cw [] (c_n) rfl rfl rfl ?_
  rw [k'11 1 (by omega) (by omega) (by omega) hd2]
  refine x_cw [] (c_w) rfl rfl rfl ?_
  refine x_call [1] (c3) rfl rfl rfl rfl rfl rfl (by decide) (by simp [k'5 ha2]) (by simp [k'5 ha3]) rfl rfl rfl rfl ?_
  refine Y ?_
  refine l_wr [1] (c4) ha3 ha4 ?_
  refine l_wr [1] (cu) ha4 (.inl rfl) ?_
  refine k'1g [1] (cs) rfl rfl rfl rfl rfl rfl rfl (by decide) (by simp [k'5 (.inl rfl)]) rfl rfl rfl rfl ?_
  exact Z
 ·rw [onV_no hk, List.append_nil] at hlen ⊢
  obtain ⟨a0, ha0, c0⟩ := k'2g B 1 x.name (by omega) (by omega) (.nw 71 2) [] k'22 (by simp only [List.length_append, List.length_nil] at hlen ⊢; omega)
  rw [List.nil_append] at c0
  obtain ⟨a1, ha1, c1⟩ := k'2g B 2 x.desc (by omega) (by omega) (a0) (txV 1 x.name) ha0 (by simp only [List.length_append, List.length_nil] at hlen ⊢; omega)
  obtain ⟨a2, ha2, c2⟩ := k'2g B 3 x.unit (by omega) (by omega) (a1) (txV 1 x.name ++ txV 2 x.desc) ha1 (by simp only [List.length_append, List.length_nil] at hlen ⊢; omega)
  obtain ⟨a3, ha3, c3⟩ := k'34 B 12 (by omega) (by omega) z_mets d (by omega) w_mets m_mets hd hd2 r_mets (a2) (txV 1 x.name ++ txV 2 x.desc ++ txV 3 x.unit) ha2 (by simp only [List.length_append, List.length_nil] at hlen ⊢; omega)
  obtain ⟨cu, cs⟩ := k'26 B (s := x.u) ha3 (l := txV 1 x.name ++ txV 2 x.desc ++ txV 3 x.unit ++ psV 12 (Kv.mars x.mets)) (by simp only [List.length_append] at hlen ⊢; omega)
  generalize txV 1 x.name ++ txV 2 x.desc ++ txV 3 x.unit ++ psV 12 (Kv.mars x.mets) = o3 at c3 cu cs ⊢
  generalize txV 1 x.name ++ txV 2 x.desc ++ txV 3 x.unit = o2 at c2 c3
  generalize txV 1 x.name ++ txV 2 x.desc = o1 at c1 c2
  generalize txV 1 x.name = o0 at c0 c1
  refine l_bw Tryz.func185 0 [] ?_
  refine l_cw [] (hm) rfl rfl rfl ?_
  refine l_wr [1] (c0) k'22 ha0 ?_
  refine l_wr [1] (c1) ha0 ha1 ?_
  refine l_wr [1] (c2) ha1 ha2 ?_
  rw [show decide (x.kind > 0) = false from decide_eq_false (by omega)]
  refine Y ?_
  refine l_wr [1] (c3) ha2 ha3 ?_
  refine l_wr [1] (cu) ha3 (.inl rfl) ?_
  refine k'1g [1] (cs) rfl rfl rfl rfl rfl rfl rfl (by decide) (by simp [k'5 (.inl rfl)]) rfl rfl rfl rfl ?_
  exact Z
theorem Parts_Me_wr : PartsP B 184 MeSh := k'3j B Tryz.func184
theorem Parts_Me_R : k'3o B 184 185 Me.R Me.sz Me.wf Me.may Me.mar := Parts_R B (Parts_Me_wr B) Me.Rs_sh (Me_Marshal_calls B)
end
section
theorem rFlag_calls (e : Option Er) (u : List UInt8) (d n : Int) (l : List Fld) (num : Nat) (hl : l.length ≤ most) : k'0 (cx B) 283 [.ptr 0 0, iT num] [rO e u d n l] (.d (.bool (decide (0 < (k'6 l num).n)))) [rO e u d n l] := by
 have h1 := k'4k B e u d n l num hl
 rw [show decide (0 < (k'6 l num).n) = decide (((k'6 l num).n : Int) > 0) by congr 1; apply propext; omega]
 refine l_bw Tryz.func283 1 [] ?_
 refine k'1 [0] (h1) rfl rfl rfl ?_
 exact Z
theorem read_calls (k : Int) : k'0 (cx B) 215 [.d (.int .i64 k)] [] (.d (.fn 282 [.box [.int .i64 k]])) [] := by
 refine l_b0 Tryz.func215 0 [] ?_
 exact Z
theorem temp_i32 (n : Nat) : IntKind.i32.wrap (IntKind.u32.wrap (n : Int)) = k'3t n := by
 unfold k'3t
 rw [IntKind.wrap_u32, IntKind.wrap_i32]
 split <;> omega
def meI (k : Int) (i : In) : Me := ⟨[], [], [], k, i, [], []⟩
theorem okI_rd (k : Int) (s : List UInt8) (d : Int) : okI k s d = (match k'd s d, ptsI k d (knB (tbI k) s d) with
  | none, some p => some ⟨p.nbs, p.his, p.ehs, p.sus, k'3t (k'6 (knB (tbI k) s d) 2).n, decide (0 < (k'6 (knB (tbI k) s d) 3).n), unB (tbI k) s d⟩
  | _, _ => none) := by
 unfold okI
 rw [k'4a]
 cases k'd s d with
 | some e => rfl
 | none =>
  unfold tellI
  simp only
  cases ptsI k d (knB (tbI k) s d) with
  | none => rfl
  | some p => rfl
set_option maxHeartbeats 8000000 in
theorem I_read (hB : BOk B) {k : Int} (hk1 : 1 ≤ k) (hk2 : k ≤ 5) (s : List UInt8) (d : Int) (hl : s.length < big) (hd1 : -9223372036854775808 ≤ d) (hd2 : d < 9223372036854775808) : RdAt B 282 [.box [.int .i64 k]] Me.d (meI k) (okI k s d) s d := by
 have h1 := Read_cap B hB 352 [.box [.int .i64 k]] (tbI k) (innerT B k) s d hl hd1 hd2
 have hk : LOk (knB (tbI k) s d) := k'e (tbI k) s d hl
 have hm := k'1p hk
 have c_i := inner_calls B k
 have c_2 := k'9 B (k'd s d) (unB (tbI k) s d) d s.length (knB (tbI k) s d) 2 hm
 have c_3 := rFlag_calls B (k'd s d) (unB (tbI k) s d) d s.length (knB (tbI k) s d) 3 hm
 rw [show unkL (tbI k) (fldsE s d) = unB (tbI k) s d from rfl, show k'f (tbI k) (fldsE s d) = knB (tbI k) s d from rfl] at h1
 rw [okI_rd]
 unfold RdAt
 generalize hL : knB (tbI k) s d = L at *
 generalize hU : unB (tbI k) s d = U at *
 have hk' : (k = 1 ∨ k = 2) ∨ k = 3 ∨ k = 4 ∨ k = 5 := by omega
 rcases hk' with hk' | hk' | hk' | hk'
 ·obtain ⟨vs, e1, c, t1⟩ := List_Nb_tells B hB (fun s => okNb s (d - 1)) id noNb 285 [] (k'd s d) U d s.length L 1 hk (fun h => by rw [← hL] at h; have := k'1u h; omega) hd2 (fun x hx hn => (Nb_read B hB x.s (d - 1) (lok_s hk hx) (by rw [← hL] at hx; have := k'2e hx; omega) (by omega)).1.at)
  have main : k'0 (cx B) 282 ([sT s, .d (.int .i64 d)] ++ [.box [.int .i64 k]].map T.d) [] (.tup [.d (meI k ⟨vs, [], [], [], k'3t (k'6 L 2).n, decide (0 < (k'6 L 3).n), U⟩).d, .d (eD e1)]) [] := by
   clear t1
   rcases hk' with rfl | rfl
   ·show k'0 (cx B) 282 [sT s, .d (.int .i64 d), .d (.box [.int .i64 _])] [] _ []
    unfold meI Me.d
    dsimp only
    refine l_bw Tryz.func282 0 [] ?_
    refine l_cw [] (c_i) rfl rfl rfl ?_
    refine l_cw [] (h1) rfl rfl rfl ?_
    refine k'3q (i0 := 12) (z := 13) (t0 := 8) rfl (by decide) rfl rfl rfl rfl rfl rfl rfl rfl rfl rfl ?_
    refine Y ?_
    refine x_cw [1] (c_2) rfl rfl rfl ?_
    rw [temp_i32]
    refine x_cw [1] (c_3) rfl rfl rfl ?_
    refine k'1 [1] (c) rfl rfl rfl ?_
    exact Z
   ·show k'0 (cx B) 282 [sT s, .d (.int .i64 d), .d (.box [.int .i64 _])] [] _ []
    unfold meI Me.d
    dsimp only
    refine l_bw Tryz.func282 0 [] ?_
    refine l_cw [] (c_i) rfl rfl rfl ?_
    refine l_cw [] (h1) rfl rfl rfl ?_
    refine k'3q (i0 := 12) (z := 13) (t0 := 8) rfl (by decide) rfl rfl rfl rfl rfl rfl rfl rfl rfl rfl ?_
    refine Y ?_
    refine x_cw [1] (c_2) rfl rfl rfl ?_
    rw [temp_i32]
    refine x_cw [1] (c_3) rfl rfl rfl ?_
    refine k'1 [1] (c) rfl rfl rfl ?_
    exact Z
  have hp : ptsI k d L = (match k'3 (fun s => okNb s (d - 1)) 1 L with | none => none | some v => some ⟨v, [], [], [], 0, false, []⟩) := by unfold ptsI; rw [if_pos hk']; cases k'3 (fun s => okNb s (d - 1)) 1 L <;> rfl
  rw [hp]
  cases e1 with
  | none =>
   obtain ⟨k0, a, g, v⟩ := t1.ok
   rw [k0, g]
   rw [List.map_id] at v
   subst v
   exact main
  | some er =>
   have hno : (match k'd s d, (match k'3 (fun s => okNb s (d - 1)) 1 L with | none => none | some v => some (⟨v, [], [], [], 0, false, []⟩ : In)) with
    | none, some p => some (⟨p.nbs, p.his, p.ehs, p.sus, k'3t (k'6 L 2).n, decide (0 < (k'6 L 3).n), U⟩ : In)
    | _, _ => none) = none := by
    cases hr : k'd s d with
    | some x => rfl
    | none =>
     rw [hr] at t1
     cases hp1 : k'3 (fun s => okNb s (d - 1)) 1 L with
     | none => rfl
     | some a =>
      rw [hp1] at t1
      have := t1.get.2; simp at this
   rw [hno]
   exact ⟨_, er, t1.ein (fun x hx => k'n hx) er rfl, main⟩
 ·obtain ⟨vs, e1, c, t1⟩ := List_Hi_tells B hB (fun s => okHi s (d - 1)) id noHi 287 [] (k'd s d) U d s.length L 1 hk (fun h => by rw [← hL] at h; have := k'1u h; omega) hd2 (fun x hx hn => (Hi_read B hB x.s (d - 1) (lok_s hk hx) (by rw [← hL] at hx; have := k'2e hx; omega) (by omega)).1.at)
  have main : k'0 (cx B) 282 ([sT s, .d (.int .i64 d)] ++ [.box [.int .i64 k]].map T.d) [] (.tup [.d (meI k ⟨[], vs, [], [], k'3t (k'6 L 2).n, decide (0 < (k'6 L 3).n), U⟩).d, .d (eD e1)]) [] := by
   clear t1
   subst hk'
   show k'0 (cx B) 282 [sT s, .d (.int .i64 d), .d (.box [.int .i64 _])] [] _ []
   unfold meI Me.d
   dsimp only
   refine l_bw Tryz.func282 0 [] ?_
   refine l_cw [] (c_i) rfl rfl rfl ?_
   refine l_cw [] (h1) rfl rfl rfl ?_
   refine k'3q (i0 := 12) (z := 13) (t0 := 8) rfl (by decide) rfl rfl rfl rfl rfl rfl rfl rfl rfl rfl ?_
   refine Y ?_
   refine x_cw [1] (c_2) rfl rfl rfl ?_
   rw [temp_i32]
   refine x_cw [1] (c_3) rfl rfl rfl ?_
   refine k'1 [1] (c) rfl rfl rfl ?_
   exact Z
  have hp : ptsI k d L = (match k'3 (fun s => okHi s (d - 1)) 1 L with | none => none | some v => some ⟨[], v, [], [], 0, false, []⟩) := by unfold ptsI; rw [if_neg (by omega), if_pos hk']; cases k'3 (fun s => okHi s (d - 1)) 1 L <;> rfl
  rw [hp]
  cases e1 with
  | none =>
   obtain ⟨k0, a, g, v⟩ := t1.ok
   rw [k0, g]
   rw [List.map_id] at v
   subst v
   exact main
  | some er =>
   have hno : (match k'd s d, (match k'3 (fun s => okHi s (d - 1)) 1 L with | none => none | some v => some (⟨[], v, [], [], 0, false, []⟩ : In)) with
    | none, some p => some (⟨p.nbs, p.his, p.ehs, p.sus, k'3t (k'6 L 2).n, decide (0 < (k'6 L 3).n), U⟩ : In)
    | _, _ => none) = none := by
    cases hr : k'd s d with
    | some x => rfl
    | none =>
     rw [hr] at t1
     cases hp1 : k'3 (fun s => okHi s (d - 1)) 1 L with
     | none => rfl
     | some a =>
      rw [hp1] at t1
      have := t1.get.2; simp at this
   rw [hno]
   exact ⟨_, er, t1.ein (fun x hx => k'n hx) er rfl, main⟩
 ·obtain ⟨vs, e1, c, t1⟩ := List_Eh_tells B hB (fun s => okEh s (d - 1)) id noEh 289 [] (k'd s d) U d s.length L 1 hk (fun h => by rw [← hL] at h; have := k'1u h; omega) hd2 (fun x hx hn => (Eh_read B hB x.s (d - 1) (lok_s hk hx) (by rw [← hL] at hx; have := k'2e hx; omega) (by omega)).1.at)
  have main : k'0 (cx B) 282 ([sT s, .d (.int .i64 d)] ++ [.box [.int .i64 k]].map T.d) [] (.tup [.d (meI k ⟨[], [], vs, [], k'3t (k'6 L 2).n, decide (0 < (k'6 L 3).n), U⟩).d, .d (eD e1)]) [] := by
   clear t1
   subst hk'
   show k'0 (cx B) 282 [sT s, .d (.int .i64 d), .d (.box [.int .i64 _])] [] _ []
   unfold meI Me.d
   dsimp only
   refine l_bw Tryz.func282 0 [] ?_
   refine l_cw [] (c_i) rfl rfl rfl ?_
   refine l_cw [] (h1) rfl rfl rfl ?_
   refine k'3q (i0 := 12) (z := 13) (t0 := 8) rfl (by decide) rfl rfl rfl rfl rfl rfl rfl rfl rfl rfl ?_
   refine Y ?_
   refine x_cw [1] (c_2) rfl rfl rfl ?_
   rw [temp_i32]
   refine x_cw [1] (c_3) rfl rfl rfl ?_
   refine k'1 [1] (c) rfl rfl rfl ?_
   exact Z
  have hp : ptsI k d L = (match k'3 (fun s => okEh s (d - 1)) 1 L with | none => none | some v => some ⟨[], [], v, [], 0, false, []⟩) := by unfold ptsI; rw [if_neg (by omega), if_neg (by omega), if_pos hk']; cases k'3 (fun s => okEh s (d - 1)) 1 L <;> rfl
  rw [hp]
  cases e1 with
  | none =>
   obtain ⟨k0, a, g, v⟩ := t1.ok
   rw [k0, g]
   rw [List.map_id] at v
   subst v
   exact main
  | some er =>
   have hno : (match k'd s d, (match k'3 (fun s => okEh s (d - 1)) 1 L with | none => none | some v => some (⟨[], [], v, [], 0, false, []⟩ : In)) with
    | none, some p => some (⟨p.nbs, p.his, p.ehs, p.sus, k'3t (k'6 L 2).n, decide (0 < (k'6 L 3).n), U⟩ : In)
    | _, _ => none) = none := by
    cases hr : k'd s d with
    | some x => rfl
    | none =>
     rw [hr] at t1
     cases hp1 : k'3 (fun s => okEh s (d - 1)) 1 L with
     | none => rfl
     | some a =>
      rw [hp1] at t1
      have := t1.get.2; simp at this
   rw [hno]
   exact ⟨_, er, t1.ein (fun x hx => k'n hx) er rfl, main⟩
 ·obtain ⟨vs, e1, c, t1⟩ := List_Su_tells B hB (fun s => okSu s (d - 1)) id noSu 291 [] (k'd s d) U d s.length L 1 hk (fun h => by rw [← hL] at h; have := k'1u h; omega) hd2 (fun x hx hn => (Su_read B hB x.s (d - 1) (lok_s hk hx) (by rw [← hL] at hx; have := k'2e hx; omega) (by omega)).1.at)
  have main : k'0 (cx B) 282 ([sT s, .d (.int .i64 d)] ++ [.box [.int .i64 k]].map T.d) [] (.tup [.d (meI k ⟨[], [], [], vs, k'3t (k'6 L 2).n, decide (0 < (k'6 L 3).n), U⟩).d, .d (eD e1)]) [] := by
   clear t1
   subst hk'
   show k'0 (cx B) 282 [sT s, .d (.int .i64 d), .d (.box [.int .i64 _])] [] _ []
   unfold meI Me.d
   dsimp only
   refine l_bw Tryz.func282 0 [] ?_
   refine l_cw [] (c_i) rfl rfl rfl ?_
   refine l_cw [] (h1) rfl rfl rfl ?_
   refine k'3q (i0 := 12) (z := 13) (t0 := 8) rfl (by decide) rfl rfl rfl rfl rfl rfl rfl rfl rfl rfl ?_
   refine Y ?_
   refine x_cw [1] (c_2) rfl rfl rfl ?_
   rw [temp_i32]
   refine x_cw [1] (c_3) rfl rfl rfl ?_
   refine k'1 [1] (c) rfl rfl rfl ?_
   exact Z
  have hp : ptsI k d L = (match k'3 (fun s => okSu s (d - 1)) 1 L with | none => none | some v => some ⟨[], [], [], v, 0, false, []⟩) := by unfold ptsI; rw [if_neg (by omega), if_neg (by omega), if_neg (by omega)]; cases k'3 (fun s => okSu s (d - 1)) 1 L <;> rfl
  rw [hp]
  cases e1 with
  | none =>
   obtain ⟨k0, a, g, v⟩ := t1.ok
   rw [k0, g]
   rw [List.map_id] at v
   subst v
   exact main
  | some er =>
   have hno : (match k'd s d, (match k'3 (fun s => okSu s (d - 1)) 1 L with | none => none | some v => some (⟨[], [], [], v, 0, false, []⟩ : In)) with
    | none, some p => some (⟨p.nbs, p.his, p.ehs, p.sus, k'3t (k'6 L 2).n, decide (0 < (k'6 L 3).n), U⟩ : In)
    | _, _ => none) = none := by
    cases hr : k'd s d with
    | some x => rfl
    | none =>
     rw [hr] at t1
     cases hp1 : k'3 (fun s => okSu s (d - 1)) 1 L with
     | none => rfl
     | some a =>
      rw [hp1] at t1
      have := t1.get.2; simp at this
   rw [hno]
   exact ⟨_, er, t1.ein (fun x hx => k'n hx) er rfl, main⟩
theorem Me_fits (l : List Me) : ∀ a ∈ l.map Me.d, a.fits 13 = true := by
 intro a ha
 obtain ⟨c, -, rfl⟩ := List.mem_map.1 ha
 rfl
theorem part_Me_calls : partP B 211 Me.d := k'2s B Tryz.func211
theorem Inner_Me_calls (hB : BOk B) (o : OneS) (f : Nat) (cap : List D) (x : Me) (er : Option Er) (e : Option Er) (u : List UInt8) (d n : Int) (l : List Fld) (hd1 : -9223372036854775808 < d) (hd2 : d < 9223372036854775808) (hl : o.all.flatten.length < big) (hn : o.all.length < big)
  (hf : k'0 (cx B) f ([sT o.all.flatten, .d (.int .i64 (d - 1))] ++ cap.map T.d) [] (.tup [.d x.d, .d (eD er)]) []) :
  k'0 (cx B) 214 [.ptr 0 0, .d o.d, .d (.fn f cap)] [rO e u d n l] (.d x.d) [rO (k'59 n o.num e er) u d n l] := by
 have h1 := Join_calls B o.all hl hn
 have h2 := part_Me_calls B hB f cap x er o.all.flatten e u d n l o.num hd1 hd2 hf
 refine l_bw Tryz.func214 1 [] ?_
 refine x_cw [] (h1) rfl rfl rfl ?_
 refine k'1v [0] (h2) rfl rfl rfl ?_
 exact Z
theorem List_Me_calls : ListP B 160 Me.d := List_S B (fun x => Me_fits [x]) (part_Me_calls B) (k'4u B Tryz.func160)
theorem List_Me_tells : ListT B 160 Me.d := k'1r B (List_Me_calls B)
theorem inner_step (hB : BOk B) (s : List UInt8) (d : Int) (hl : s.length < big) (hd1 : -9223372036854775808 ≤ d) (hd2 : d < 9223372036854775808) (h0 : (oneF onNs (knB tbM s d)).num ≠ 0) : ∃ (y : Me) (e1 : Option Er), k'0 (cx B) 214 [.ptr 0 0, .d (oneF onNs (knB tbM s d)).d, .d (.fn 282 [.box [.int .i64 (kindK (oneF onNs (knB tbM s d)).num)]])] [rO (k'd s d) (unB tbM s d) d s.length (knB tbM s d)] (.d y.d) [rO e1 (unB tbM s d) d s.length (knB tbM s d)] ∧
  Tells s.length (k'd s d) (onO d (knB tbM s d)) (fun p => meI p.1 p.2) y e1 := by
 have hk : LOk (knB tbM s d) := k'e tbM s d hl
 obtain ⟨o1, o2, o3, o4⟩ := oneF_ok (ns := onNs) hk.1
 have o5 := oneF_len onNs (knB tbM s d)
 have hkl := hk.lenb
 have hkw := hk.2
 rcases o4 with o4 | ⟨o4, x, hx, -⟩
 ·exact absurd o4 h0
 have hpos : 0 ≤ d := k'2e hx
 obtain ⟨k1, -⟩ := kindK_ok o4
 have hf := I_read B hB k1.1 k1.2 (oneF onNs (knB tbM s d)).all.flatten (d - 1) (by omega) (by omega) (by omega)
 have hcall := fun (x : Me) (er : Option Er) h => Inner_Me_calls B hB (oneF onNs (knB tbM s d)) 282 [.box [.int .i64 (kindK (oneF onNs (knB tbM s d)).num)]] x er (k'd s d) (unB tbM s d) d s.length (knB tbM s d) (by omega) hd2 (by omega) (by omega) h
 have ho : onO d (knB tbM s d) = (match okI (kindK (oneF onNs (knB tbM s d)).num) (oneF onNs (knB tbM s d)).all.flatten (d - 1) with | none => none | some x => some (kindK (oneF onNs (knB tbM s d)).num, x)) := by unfold onO; rw [if_neg h0]; cases okI (kindK (oneF onNs (knB tbM s d)).num) (oneF onNs (knB tbM s d)).all.flatten (d - 1) <;> rfl
 rw [ho]
 unfold RdAt at hf
 cases hi : okI (kindK (oneF onNs (knB tbM s d)).num) (oneF onNs (knB tbM s d)).all.flatten (d - 1) with
 | some i =>
  rw [hi] at hf
  refine ⟨_, _, hcall _ none hf, ?_⟩
  rw [failE_nn]
  unfold Tells
  cases k'd s d with
  | some x => rfl
  | none => exact ⟨rfl, rfl⟩
 | none =>
  rw [hi] at hf
  obtain ⟨y, er, hin, hf⟩ := hf
  refine ⟨_, _, hcall _ (some er) hf, ?_⟩
  unfold Tells
  cases k'd s d with
  | some x => rfl
  | none =>
   obtain ⟨e1, g1, g2⟩ := fail_in s.length (oneF onNs (knB tbM s d)).num er hin.2
   exact ⟨e1, g1, g2⟩
theorem okMe_rd (s : List UInt8) (d : Int) : okMe s d = (match k'd s d, k'1x 1 (knB tbM s d), k'1x 2 (knB tbM s d), k'1x 3 (knB tbM s d), onO d (knB tbM s d), k'3 (fun s => okK s (d - 1)) 12 (knB tbM s d) with
 | none, some name, some desc, some unit, some data, some mets => some ⟨name, desc, unit, data.1, data.2, mets, unB tbM s d⟩
 | _, _, _, _, _, _ => none) := by
 unfold okMe
 rw [k'4a]
 cases k'd s d with
 | some e => rfl
 | none =>
  unfold tellMe
  simp only
  cases k'1x 1 (knB tbM s d) with
  | none => rfl
  | some name =>
   cases k'1x 2 (knB tbM s d) with
   | none => rfl
   | some desc =>
    cases k'1x 3 (knB tbM s d) with
    | none => rfl
    | some unit =>
     cases onO d (knB tbM s d) with
     | none => rfl
     | some data =>
      cases k'3 (fun s => okK s (d - 1)) 12 (knB tbM s d) with
      | none => rfl
      | some mets => rfl
set_option maxHeartbeats 8000000 in
theorem Me_read (hB : BOk B) (s : List UInt8) (d : Int) (hl : s.length < big) (hd1 : -9223372036854775808 ≤ d) (hd2 : d < 9223372036854775808) :
  RdZ B 161 Me.d noMe (okMe s d) s d ∧ (∀ e0, k'd s d = some e0 → k'0 (cx B) 161 [sT s, .d (.int .i64 d)] [] (.tup [.d noMe.d, .d e0.d]) []) := by
 have h1 := k'o B hB 198 tbM (tbM_calls B) s d hl hd1 hd2
 have hk : LOk (knB tbM s d) := k'e tbM s d hl
 have hm := k'1p hk
 have h3 := rOne_calls B (k'd s d) (unB tbM s d) d s.length (knB tbM s d) false onNs (by decide) hk
 have hstep : ∃ (y : Me) (e1 : Option Er), Tells s.length (k'd s d) (onO d (knB tbM s d)) (fun p => meI p.1 p.2) y e1 ∧ ∀ (v_name v_desc v_unit : List UInt8) (vs_mets : List KVs) (e2 e3 e4 e5 : Option Er),
   k'0 (cx B) 111 [.ptr 0 0, iT 1] [rO e1 (unB tbM s d) d s.length (knB tbM s d)] (sT v_name) [rO e2 (unB tbM s d) d s.length (knB tbM s d)] →
   k'0 (cx B) 111 [.ptr 0 0, iT 2] [rO e2 (unB tbM s d) d s.length (knB tbM s d)] (sT v_desc) [rO e3 (unB tbM s d) d s.length (knB tbM s d)] →
   k'0 (cx B) 111 [.ptr 0 0, iT 3] [rO e3 (unB tbM s d) d s.length (knB tbM s d)] (sT v_unit) [rO e4 (unB tbM s d) d s.length (knB tbM s d)] →
   k'0 (cx B) 167 [.ptr 0 0, iT 12, .d (.fn 168 [])] [rO e4 (unB tbM s d) d s.length (knB tbM s d)] (.d (slD (vs_mets.map KVs.d))) [rO e5 (unB tbM s d) d s.length (knB tbM s d)] →
   k'0 (cx B) 161 [sT s, .d (.int .i64 d)] [] (.tup [.d (orD e5 (.agg [.str v_name, .str v_desc, .str v_unit, .int .i64 y.kind, .int .i32 y.dat.temp, .bool y.dat.mono, slD (y.dat.nbs.map Nb.d), slD (y.dat.his.map Hi.d), slD (y.dat.ehs.map Eh.d), slD (y.dat.sus.map Su.d), slD (vs_mets.map KVs.d), .str y.dat.u, .str (unB tbM s d)]) noMe.d), .d (eD e5)]) [] := by
  generalize hO : oneF onNs (knB tbM s d) = o at *
  by_cases h0 : o.num = 0
  ·refine ⟨noMe, k'd s d, ?_, fun v_name v_desc v_unit vs_mets e2 e3 e4 e5 c2 c3 c4 c5 => ?_⟩
   ·have ho : onO d (knB tbM s d) = some (0, noIn) := by unfold onO; rw [hO, if_pos h0]
    rw [ho]
    unfold Tells
    cases k'd s d with
    | some x => rfl
    | none => exact ⟨rfl, rfl⟩
   ·have hz : decide ((o.num : Int) > 0) = false := decide_eq_false (by omega)
    refine l_bw Tryz.func161 0 [] ?_
    refine l_cw [] (h1) rfl rfl rfl ?_
    refine l_cw [] (k'g B 1) rfl rfl rfl ?_
    refine l_cw [] (k'g B 2) rfl rfl rfl ?_
    refine l_cw [] (k'g B 3) rfl rfl rfl ?_
    refine l_cw [] (k'g B 4) rfl rfl rfl ?_
    refine l_cw [] (k'g B 5) rfl rfl rfl ?_
    refine k'4 (.buildSlice (es := onNs.map iD) rfl rfl rfl rfl rfl rfl (by intro x hx; simp [iD, onNs] at hx; rcases hx with rfl | rfl | rfl | rfl | rfl <;> rfl) (by decide) (by decide) (by decide)) rfl rfl ?_
    refine Y ?_
    refine l_cw [1] (h3) rfl rfl rfl ?_
    rw [hz]
    refine Y ?_
    refine l_cw [1] (c2) rfl rfl rfl ?_
    refine l_cw [1] (c3) rfl rfl rfl ?_
    refine l_cw [1] (c4) rfl rfl rfl ?_
    refine x_cw [1] (c5) rfl rfl rfl ?_
    cases e5 with
    | none =>
     exact Z
    | some er =>
     cases er <;> (
     exact Z)
  ·have hst := inner_step B hB s d hl hd1 hd2 (by rw [hO]; exact h0)
   rw [hO] at hst
   obtain ⟨y, e1, c1, t1⟩ := hst
   refine ⟨y, e1, t1, fun v_name v_desc v_unit vs_mets e2 e3 e4 e5 c2 c3 c4 c5 => ?_⟩
   clear t1
   have hz : decide ((o.num : Int) > 0) = true := decide_eq_true (by omega)
   have c_k := kindOf_calls B o.num
   have c_r := read_calls B (kindK o.num)
   refine l_bw Tryz.func161 0 [] ?_
   refine l_cw [] (h1) rfl rfl rfl ?_
   refine l_cw [] (k'g B 1) rfl rfl rfl ?_
   refine l_cw [] (k'g B 2) rfl rfl rfl ?_
   refine l_cw [] (k'g B 3) rfl rfl rfl ?_
   refine l_cw [] (k'g B 4) rfl rfl rfl ?_
   refine l_cw [] (k'g B 5) rfl rfl rfl ?_
   refine k'4 (.buildSlice (es := onNs.map iD) rfl rfl rfl rfl rfl rfl (by intro x hx; simp [iD, onNs] at hx; rcases hx with rfl | rfl | rfl | rfl | rfl <;> rfl) (by decide) (by decide) (by decide)) rfl rfl ?_
   refine Y ?_
   refine l_cw [1] (h3) rfl rfl rfl ?_
   rw [hz]
   refine Y ?_
   refine x_cw [] (c_k) rfl rfl rfl ?_
   refine x_cw [] (c_r) rfl rfl rfl ?_
   refine x_cw [1] (c1) rfl rfl rfl ?_
   refine l_cw [1] (c2) rfl rfl rfl ?_
   refine l_cw [1] (c3) rfl rfl rfl ?_
   refine l_cw [1] (c4) rfl rfl rfl ?_
   refine x_cw [1] (c5) rfl rfl rfl ?_
   cases e5 with
   | none =>
    exact Z
   | some er =>
    cases er <;> (
    exact Z)
 obtain ⟨y, e1, t1, hmain⟩ := hstep
 obtain ⟨vs_name, e2, c_name, t2, -⟩ := k'1t B hB e1 (unB tbM s d) d s.length (knB tbM s d) 1 hk
 obtain ⟨vs_desc, e3, c_desc, t3, -⟩ := k'1t B hB e2 (unB tbM s d) d s.length (knB tbM s d) 2 hk
 obtain ⟨vs_unit, e4, c_unit, t4, -⟩ := k'1t B hB e3 (unB tbM s d) d s.length (knB tbM s d) 3 hk
 obtain ⟨vs_mets, e5, c_mets, t5⟩ := k'15 B hB (fun s => okK s (d - 1)) Kv.sh noKV 168 [] e4 (unB tbM s d) d s.length (knB tbM s d) 12 hk (fun h => by have := k'1u h; omega) hd2 (fun x hx hn => k'16 B hB x.s (d - 1) (lok_s hk hx) (by have := k'2e hx; omega) (by omega))
 have hein : ∀ x, e5 = some x → EIn s.length x := t5.ein (t4.ein (t3.ein (t2.ein (t1.ein (fun x hx => k'n hx)))))
 have main := hmain _ _ _ _ _ _ _ _ c_name c_desc c_unit c_mets
 constructor
 ·rw [okMe_rd]
  cases e5 with
  | none =>
   obtain ⟨k5, a5, g5, v5⟩ := t5.ok
   subst k5
   obtain ⟨k4, a4, g4, v4⟩ := t4.ok
   subst k4
   obtain ⟨k3, a3, g3, v3⟩ := t3.ok
   subst k3
   obtain ⟨k2, a2, g2, v2⟩ := t2.ok
   subst k2
   obtain ⟨k1, a1, g1, v1⟩ := t1.ok
   rw [k1, g1, g2, g3, g4, g5]
   simp only [id_eq] at v2 v3 v4
   subst v1; subst v2; subst v3; subst v4; subst v5
   rw [ks_map a5] at main
   exact main
  | some er =>
   have hno : (match k'd s d, k'1x 1 (knB tbM s d), k'1x 2 (knB tbM s d), k'1x 3 (knB tbM s d), onO d (knB tbM s d), k'3 (fun s => okK s (d - 1)) 12 (knB tbM s d) with
    | none, some name, some desc, some unit, some data, some mets => some (⟨name, desc, unit, data.1, data.2, mets, unB tbM s d⟩ : Me)
    | _, _, _, _, _, _ => none) = none := by
    cases hr : k'd s d with
    | some x => rfl
    | none =>
     rw [hr] at t1
     cases hp1 : onO d (knB tbM s d) with
     | none => (repeat' split) <;> simp_all
     | some a1 =>
      rw [hp1] at t1
      obtain ⟨-, q1⟩ := t1.get
      subst q1
      cases hp2 : k'1x 1 (knB tbM s d) with
      | none => rfl
      | some a2 =>
       rw [hp2] at t2
       obtain ⟨-, q2⟩ := t2.get
       subst q2
       cases hp3 : k'1x 2 (knB tbM s d) with
       | none => rfl
       | some a3 =>
        rw [hp3] at t3
        obtain ⟨-, q3⟩ := t3.get
        subst q3
        cases hp4 : k'1x 3 (knB tbM s d) with
        | none => rfl
        | some a4 =>
         rw [hp4] at t4
         obtain ⟨-, q4⟩ := t4.get
         subst q4
         cases hp5 : k'3 (fun s => okK s (d - 1)) 12 (knB tbM s d) with
         | none => rfl
         | some a5 =>
          rw [hp5] at t5
          have := t5.get.2; simp at this
   rw [hno]
   exact ⟨er, hein er rfl, main⟩
 ·intro e0 he
  rw [he] at t1
  have k1 := t1.keep
  subst k1
  have k2 := t2.keep
  subst k2
  have k3 := t3.keep
  subst k3
  have k4 := t4.keep
  subst k4
  have k5 := t5.keep
  subst k5
  exact main
end
