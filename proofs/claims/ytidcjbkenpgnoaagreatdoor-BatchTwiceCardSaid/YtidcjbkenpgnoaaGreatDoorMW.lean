/- Metrics: alike, may they be, written. -/
import Derived.Test.YtidcjbkenpgnoaaGreatDoorMJ
set_option linter.unusedSimpArgs false
set_option linter.unusedVariables false
set_option maxRecDepth 100000
namespace Go.Proofs.YtidcjbkenpgnoaaGreatDoor
open Go Go.Abs
variable (B : Fr)
theorem alike_calls (x y : Me) (xa ya : D) (hbig : x.sz < big) (hx : x.R xa) (hy : y.R ya) : k'0 (cx B) 235 [.d xa, .d ya] [] (.d (.bool (x.name == y.name && x.desc == y.desc && x.unit == y.unit && x.kind == y.kind && x.dat.temp == y.dat.temp && x.dat.mono == y.dat.mono && x.dat.u == y.dat.u && x.u == y.u && Kv.eqs x.mets y.mets))) [] := by
 obtain ⟨z_nbs, l_nbs, z_his, l_his, z_ehs, l_ehs, z_sus, l_sus, z_mets, l_mets, rfl, r_nbs, r_his, r_ehs, r_sus, r_mets⟩ := hx
 obtain ⟨y_nbs, m_nbs, y_his, m_his, y_ehs, m_ehs, y_sus, m_sus, y_mets, m_mets, rfl, s_nbs, s_his, s_ehs, s_sus, s_mets⟩ := hy
 unfold Me.sz In.sz at hbig
 have c_mets := k'14 B (a := x.mets) (b := y.mets) z_mets y_mets (by omega) r_mets s_mets
 refine l_bw Tryz.func235 0 [] ?_
 cases e0 : (x.name == y.name)
 ·exact Z
 refine Y ?_
 cases e1 : (x.desc == y.desc)
 ·exact Z
 refine Y ?_
 cases e2 : (x.unit == y.unit)
 ·exact Z
 refine Y ?_
 cases e3 : (x.kind == y.kind)
 ·exact Z
 refine Y ?_
 cases e4 : (x.dat.temp == y.dat.temp)
 ·exact Z
 refine Y ?_
 cases e5 : (x.dat.mono == y.dat.mono)
 ·exact Z
 refine Y ?_
 cases e6 : (x.dat.u == y.dat.u)
 ·exact Z
 refine Y ?_
 cases e7 : (x.u == y.u)
 ·exact Z
 refine Y ?_
 refine k'8 [] (c_mets) rfl rfl rfl rfl rfl ?_
 exact Z
theorem Me_Same_calls (x y : Me) (xa ya : D) (hbig : x.sz < big) (hx : x.R xa) (hy : y.R ya) : k'0 (cx B) 177 [.d xa, .d ya] [] (.d (.bool (x.eq y))) [] := by
 have c_al := alike_calls B x y xa ya hbig hx hy
 obtain ⟨z_nbs, l_nbs, z_his, l_his, z_ehs, l_ehs, z_sus, l_sus, z_mets, l_mets, rfl, r_nbs, r_his, r_ehs, r_sus, r_mets⟩ := hx
 obtain ⟨y_nbs, m_nbs, y_his, m_his, y_ehs, m_ehs, y_sus, m_sus, y_mets, m_mets, rfl, s_nbs, s_his, s_ehs, s_sus, s_mets⟩ := hy
 unfold Me.sz In.sz at hbig
 have c_nbs := EqF_Nb_R B z_nbs y_nbs (by omega) r_nbs s_nbs
 have c_his := EqF_Hi_R B z_his y_his (by omega) r_his s_his
 have c_ehs := EqF_Eh_R B z_ehs y_ehs (by omega) r_ehs s_ehs
 have c_sus := EqF_Su_R B z_sus y_sus (by omega) r_sus s_sus
 rw [show x.eq y = ((x.name == y.name && x.desc == y.desc && x.unit == y.unit && x.kind == y.kind && x.dat.temp == y.dat.temp && x.dat.mono == y.dat.mono && x.dat.u == y.dat.u && x.u == y.u && Kv.eqs x.mets y.mets) && Nb.eqs x.dat.nbs y.dat.nbs && Hi.eqs x.dat.his y.dat.his && Eh.eqs x.dat.ehs y.dat.ehs && Su.eqs x.dat.sus y.dat.sus) by unfold Me.eq In.eq; ac_rfl]
 generalize (x.name == y.name && x.desc == y.desc && x.unit == y.unit && x.kind == y.kind && x.dat.temp == y.dat.temp && x.dat.mono == y.dat.mono && x.dat.u == y.dat.u && x.u == y.u && Kv.eqs x.mets y.mets) = AL at *
 refine l_bw Tryz.func177 0 [] ?_
 refine l_cw [] (c_al) rfl rfl rfl ?_
 cases e0 : (AL)
 ·exact Z
 refine Y ?_
 refine k'1m [] (c_nbs) rfl rfl rfl rfl rfl ?_
 cases e1 : (Nb.eqs x.dat.nbs y.dat.nbs)
 ·exact Z
 refine Y ?_
 refine k'1m [] (c_his) rfl rfl rfl rfl rfl ?_
 cases e2 : (Hi.eqs x.dat.his y.dat.his)
 ·exact Z
 refine Y ?_
 refine k'1m [] (c_ehs) rfl rfl rfl rfl rfl ?_
 cases e3 : (Eh.eqs x.dat.ehs y.dat.ehs)
 ·exact Z
 refine Y ?_
 refine k'8 [] (c_sus) rfl rfl rfl rfl rfl ?_
 exact Z
theorem EqF_Me_calls : EqFP B 176 MeSh := EqF_mk B Tryz.func176
set_option maxHeartbeats 4000000 in
theorem mmay_calls (x : Me) (xa : D) (d : Int) (hbig : x.sz < big) (hx : x.R xa) (hd1 : -9223372036854775808 ≤ d) (hd2 : d < 9223372036854775808) : k'0 (cx B) 197 [.d xa, .d (.int .i64 d)] [] (.d (.bool (mayI x.kind x.dat d))) [] := by
 obtain ⟨z_nbs, l_nbs, z_his, l_his, z_ehs, l_ehs, z_sus, l_sus, z_mets, l_mets, rfl, r_nbs, r_his, r_ehs, r_sus, r_mets⟩ := hx
 unfold Me.sz In.sz at hbig
 have c_u := Rest_cap B 352 [.box [.int .i64 x.kind]] (tbI x.kind) (innerT B x.kind) x.dat.u d (by omega) (by omega) hd2
 have c_i := inner_calls B x.kind
 have q_nbs : 0 ≤ d → k'0 (cx B) 252 [.d (.sl z_nbs l_nbs), .d (.int .i64 d), .d (.fn 253 [])] [] (.d (.bool (x.dat.nbs.all fun k => k.may (d - 1)))) [] := fun h => All_Nb_R B z_nbs d (by omega) h hd2 r_nbs
 have q_his : 0 ≤ d → k'0 (cx B) 254 [.d (.sl z_his l_his), .d (.int .i64 d), .d (.fn 255 [])] [] (.d (.bool (x.dat.his.all fun k => k.may (d - 1)))) [] := fun h => All_Hi_R B z_his d (by omega) h hd2 r_his
 have q_ehs : 0 ≤ d → k'0 (cx B) 256 [.d (.sl z_ehs l_ehs), .d (.int .i64 d), .d (.fn 257 [])] [] (.d (.bool (x.dat.ehs.all fun k => k.may (d - 1)))) [] := fun h => All_Eh_R B z_ehs d (by omega) h hd2 r_ehs
 have q_sus : 0 ≤ d → k'0 (cx B) 258 [.d (.sl z_sus l_sus), .d (.int .i64 d), .d (.fn 259 [])] [] (.d (.bool (x.dat.sus.all fun k => k.may (d - 1)))) [] := fun h => All_Su_R B z_sus d (by omega) h hd2 r_sus
 have hR : mayI x.kind x.dat d = (decide (d ≥ 0) && ((x.dat.nbs.all fun k => k.may (d - 1)) && ((x.dat.his.all fun k => k.may (d - 1)) && ((x.dat.ehs.all fun k => k.may (d - 1)) && ((x.dat.sus.all fun k => k.may (d - 1)) && k'1l (tbI x.kind) x.dat.u d))))) := by
  unfold mayI In.pts
  rw [show decide (d ≥ 0) = decide (0 ≤ d) from rfl]
  simp only [Bool.and_assoc]
 rw [hR]
 clear hR
 generalize k'1l (tbI x.kind) x.dat.u d = RU at *
 refine l_bw Tryz.func197 0 [] ?_
 (repeat ((with_reducible refine k'1i ?_); first | refine k'2o rfl rfl ?_ | refine k'24 rfl rfl rfl ?_ | refine k'2j rfl rfl rfl rfl rfl rfl ?_))
 cases hd : decide (d ≥ 0)
 ·(repeat ((with_reducible refine k'1i ?_); first | refine k'2o rfl rfl ?_ | refine k'24 rfl rfl rfl ?_ | refine k'2j rfl rfl rfl rfl rfl rfl ?_))
  exact Z
 have hd0 : 0 ≤ d := of_decide_eq_true hd
 replace q_nbs := q_nbs hd0
 replace q_his := q_his hd0
 replace q_ehs := q_ehs hd0
 replace q_sus := q_sus hd0
 (repeat ((with_reducible refine k'1i ?_); first | refine k'2o rfl rfl ?_ | refine k'24 rfl rfl rfl ?_ | refine k'2j rfl rfl rfl rfl rfl rfl ?_))
 refine Y ?_
 refine k'2k [] (q_nbs) rfl rfl rfl ?_
 (repeat ((with_reducible refine k'1i ?_); first | refine k'2o rfl rfl ?_ | refine k'24 rfl rfl rfl ?_ | refine k'2j rfl rfl rfl rfl rfl rfl ?_))
 refine Y ?_
 cases h_nbs : (x.dat.nbs.all fun k => k.may (d - 1))
 ·(repeat ((with_reducible refine k'1i ?_); first | refine k'2o rfl rfl ?_ | refine k'24 rfl rfl rfl ?_ | refine k'2j rfl rfl rfl rfl rfl rfl ?_))
  exact Z
 (repeat ((with_reducible refine k'1i ?_); first | refine k'2o rfl rfl ?_ | refine k'24 rfl rfl rfl ?_ | refine k'2j rfl rfl rfl rfl rfl rfl ?_))
 refine Y ?_
 refine k'2k [] (q_his) rfl rfl rfl ?_
 (repeat ((with_reducible refine k'1i ?_); first | refine k'2o rfl rfl ?_ | refine k'24 rfl rfl rfl ?_ | refine k'2j rfl rfl rfl rfl rfl rfl ?_))
 refine Y ?_
 cases h_his : (x.dat.his.all fun k => k.may (d - 1))
 ·(repeat ((with_reducible refine k'1i ?_); first | refine k'2o rfl rfl ?_ | refine k'24 rfl rfl rfl ?_ | refine k'2j rfl rfl rfl rfl rfl rfl ?_))
  exact Z
 (repeat ((with_reducible refine k'1i ?_); first | refine k'2o rfl rfl ?_ | refine k'24 rfl rfl rfl ?_ | refine k'2j rfl rfl rfl rfl rfl rfl ?_))
 refine Y ?_
 refine k'2k [] (q_ehs) rfl rfl rfl ?_
 (repeat ((with_reducible refine k'1i ?_); first | refine k'2o rfl rfl ?_ | refine k'24 rfl rfl rfl ?_ | refine k'2j rfl rfl rfl rfl rfl rfl ?_))
 refine Y ?_
 cases h_ehs : (x.dat.ehs.all fun k => k.may (d - 1))
 ·(repeat ((with_reducible refine k'1i ?_); first | refine k'2o rfl rfl ?_ | refine k'24 rfl rfl rfl ?_ | refine k'2j rfl rfl rfl rfl rfl rfl ?_))
  exact Z
 (repeat ((with_reducible refine k'1i ?_); first | refine k'2o rfl rfl ?_ | refine k'24 rfl rfl rfl ?_ | refine k'2j rfl rfl rfl rfl rfl rfl ?_))
 refine Y ?_
 refine k'2k [] (q_sus) rfl rfl rfl ?_
 (repeat ((with_reducible refine k'1i ?_); first | refine k'2o rfl rfl ?_ | refine k'24 rfl rfl rfl ?_ | refine k'2j rfl rfl rfl rfl rfl rfl ?_))
 refine Y ?_
 cases h_sus : (x.dat.sus.all fun k => k.may (d - 1))
 ·(repeat ((with_reducible refine k'1i ?_); first | refine k'2o rfl rfl ?_ | refine k'24 rfl rfl rfl ?_ | refine k'2j rfl rfl rfl rfl rfl rfl ?_))
  exact Z
 (repeat ((with_reducible refine k'1i ?_); first | refine k'2o rfl rfl ?_ | refine k'24 rfl rfl rfl ?_ | refine k'2j rfl rfl rfl rfl rfl rfl ?_))
 refine Y ?_
 refine k'2k [] (c_i) rfl rfl rfl ?_
 (repeat ((with_reducible refine k'1i ?_); first | refine k'2o rfl rfl ?_ | refine k'24 rfl rfl rfl ?_ | refine k'2j rfl rfl rfl rfl rfl rfl ?_))
 refine Y ?_
 refine k'2k [] (c_u) rfl rfl rfl ?_
 (repeat ((with_reducible refine k'1i ?_); first | refine k'2o rfl rfl ?_ | refine k'24 rfl rfl rfl ?_ | refine k'2j rfl rfl rfl rfl rfl rfl ?_))
 exact Z
set_option maxHeartbeats 4000000 in
theorem Me_May_calls (x : Me) (xa : D) (d : Int) (hbig : x.sz < big) (hx : x.R xa) (hd1 : -9223372036854775808 ≤ d) (hd2 : d < 9223372036854775808) : k'0 (cx B) 148 [.d xa, .d (.int .i64 d)] [] (.d (.bool (x.may d))) [] := by
 have c_b := mbare_calls B x xa hx
 have q_m : 0 ≤ d → k'0 (cx B) 197 [.d xa, .d (.int .i64 (d - 1))] [] (.d (.bool (mayI x.kind x.dat (d - 1)))) [] := fun h => mmay_calls B x xa (d - 1) hbig hx (by omega) (by omega)
 obtain ⟨z_nbs, l_nbs, z_his, l_his, z_ehs, l_ehs, z_sus, l_sus, z_mets, l_mets, rfl, r_nbs, r_his, r_ehs, r_sus, r_mets⟩ := hx
 unfold Me.sz at hbig
 have c_name := k'1a B x.name (by omega)
 have c_desc := k'1a B x.desc (by omega)
 have c_unit := k'1a B x.unit (by omega)
 have q_k : 0 ≤ d → k'0 (cx B) 141 [.d (.sl z_mets l_mets), .d (.int .i64 (d - 1))] [] (.d (.bool (x.mets.all fun k => k.may (d - 1)))) [] := fun h => k'17 B (a := x.mets) z_mets (d - 1) (by omega) (by omega) (by omega) r_mets
 have c_u := k'o B 198 tbM (tbM_calls B) x.u d (by omega) (by omega) hd2
 have hR : x.may d = (!decide (d < 0) && (bareM x.kind x.dat && ((!decide (x.kind > 0) || mayI x.kind x.dat (d - 1)) && (txt x.name && (txt x.desc && (txt x.unit && ((x.mets.all fun k => k.may (d - 1)) && k'1l tbM x.u d))))))) := by
  unfold Me.may
  rw [mayOn_bare, show decide (0 ≤ d) = !decide (d < 0) by by_cases h : d < 0 <;> simp [h] <;> omega]
  simp only [Bool.and_assoc]
 rw [hR]
 clear hR
 generalize bareM x.kind x.dat = BM at *
 generalize mayI x.kind x.dat (d - 1) = MI at *
 generalize k'1l tbM x.u d = RU at *
 refine l_bw Tryz.func148 0 [] ?_
 cases hd : decide (d < 0)
 rotate_left
 ·exact Z
 have hd0 : 0 ≤ d := by have := of_decide_eq_false hd; omega
 replace q_m := q_m hd0
 replace q_k := q_k hd0
 refine Y ?_
 refine k'1m [] (c_b) rfl rfl rfl rfl rfl ?_
 cases BM
 ·exact Z
 refine Y ?_
 cases hk : decide (x.kind > 0)
 ·refine Y ?_
  refine l_cw [] (c_name) rfl rfl rfl ?_
  cases e0 : (txt x.name)
  ·exact Z
  refine Y ?_
  refine k'1m [] (c_desc) rfl rfl rfl rfl rfl ?_
  cases e1 : (txt x.desc)
  ·exact Z
  refine Y ?_
  refine k'1m [] (c_unit) rfl rfl rfl rfl rfl ?_
  cases e2 : (txt x.unit)
  ·exact Z
  refine Y ?_
  rw [k'12 1 (by omega) (by omega) (by omega) hd2]
  refine k'1m [] (q_k) rfl rfl rfl rfl rfl ?_
  cases e3 : (x.mets.all fun k => k.may (d - 1))
  ·exact Z
  refine Y ?_
  refine k'8 [] (c_u) rfl rfl rfl rfl rfl ?_
  exact Z
 refine Y ?_
 rw [k'12 1 (by omega) (by omega) (by omega) hd2]
 refine k'1m [] (q_m) rfl rfl rfl rfl rfl ?_
 cases MI
 ·exact Z
 refine Y ?_
 refine l_cw [] (c_name) rfl rfl rfl ?_
 cases e0 : (txt x.name)
 ·exact Z
 refine Y ?_
 refine k'1m [] (c_desc) rfl rfl rfl rfl rfl ?_
 cases e1 : (txt x.desc)
 ·exact Z
 refine Y ?_
 refine k'1m [] (c_unit) rfl rfl rfl rfl rfl ?_
 cases e2 : (txt x.unit)
 ·exact Z
 refine Y ?_
 rw [k'12 1 (by omega) (by omega) (by omega) hd2]
 refine k'1m [] (q_k) rfl rfl rfl rfl rfl ?_
 cases e3 : (x.mets.all fun k => k.may (d - 1))
 ·exact Z
 refine Y ?_
 refine k'8 [] (c_u) rfl rfl rfl rfl rfl ?_
 exact Z
theorem All_Me_calls : AllP B 147 MeSh := All_of B (All1_mk B Tryz.func195) (k'2a B Tryz.func250) (Cont_mk B Tryz.func194) (Allc_mk B Tryz.func147)
theorem wr_flag (h : Bool) (n : Nat) (h1 : 1 ≤ n) (h2 : n ≤ 536870911) : Wr B 323 [iT n, .d (.bool h)] (flV n h) := fun a l ha hl => by
 cases h
 ·refine ⟨a, ha, ?_⟩
  rw [show flV n false = [] from rfl, List.append_nil]
  rcases ha with rfl | rfl | rfl <;> (rcases l with _ | ⟨c, l⟩ <;> (
  refine l_b0 Tryz.func323 1 [] ?_
  exact Z))
 rw [show flV n true = fewV n 1 from rfl] at hl ⊢
 obtain ⟨a', ha', h3⟩ := wr_few B n 1 h1 h2 (by omega) a l ha hl
 refine ⟨a', ha', ?_⟩
 generalize l ++ fewV n 1 = y at *
 rcases ha with rfl | rfl | rfl <;> (rcases ha' with rfl | rfl | rfl <;> (rcases l with _ | ⟨c, l⟩ <;> (rcases y with _ | ⟨c', y⟩ <;> (
 refine l_bw Tryz.func323 1 [] ?_
 refine k'2 [0] (h3) rfl rfl rfl ?_
 exact Z))))
theorem temp_u64 {t : Int} (h1 : -2147483648 ≤ t) (h2 : t < 2147483648) : IntKind.u64.wrap (IntKind.i64.wrap t) = (k'4i t : Int) := by
 rw [k'4c (by omega) (by omega)]
 unfold k'4i
 rw [IntKind.wrap_u64]
 by_cases h : t < 0
 ·rw [if_pos h]; omega
 ·rw [if_neg h]; omega
theorem mwrite_calls (x : Me) (xa : D) (d : Int) (hbig : x.sz < big) (hwf : x.dat.wf) (hp : x.dat.pts (d - 1) = true) (hx : x.R xa) (hd1 : 0 ≤ d) (hd2 : d < 9223372036854775808) : k'0 (cx B) 245 [.d xa, .d (.int .i64 d)] [] (sT x.dat.mar) [] := by
 have hlen := x.dat.mar_len
 obtain ⟨z_nbs, l_nbs, z_his, l_his, z_ehs, l_ehs, z_sus, l_sus, z_mets, l_mets, rfl, r_nbs, r_his, r_ehs, r_sus, r_mets⟩ := hx
 unfold Me.sz at hbig
 have hlen : x.dat.mar.length < big := by omega
 unfold In.sz at hbig
 unfold In.pts at hp
 simp only [Bool.and_eq_true] at hp
 obtain ⟨⟨⟨m_nbs, m_his⟩, m_ehs⟩, m_sus⟩ := hp
 obtain ⟨w_nbs, w_his, w_ehs, w_sus, w_temp⟩ := hwf
 unfold In.mar In.hb at hlen ⊢
 obtain ⟨a0, ha0, c0⟩ := Parts_Nb_R B 1 (by omega) (by omega) z_nbs d (by omega) w_nbs m_nbs hd1 hd2 r_nbs (.nw 71 2) [] k'1s (by simp only [List.length_append, List.length_nil] at hlen ⊢; omega)
 rw [List.nil_append] at c0
 obtain ⟨a1, ha1, c1⟩ := Parts_Hi_R B 1 (by omega) (by omega) z_his d (by omega) w_his m_his hd1 hd2 r_his (a0) (psV 1 (x.dat.nbs.map Nb.mar)) ha0 (by simp only [List.length_append, List.length_nil] at hlen ⊢; omega)
 obtain ⟨a2, ha2, c2⟩ := Parts_Eh_R B 1 (by omega) (by omega) z_ehs d (by omega) w_ehs m_ehs hd1 hd2 r_ehs (a1) (psV 1 (x.dat.nbs.map Nb.mar) ++ psV 1 (x.dat.his.map Hi.mar)) ha1 (by simp only [List.length_append, List.length_nil] at hlen ⊢; omega)
 obtain ⟨a3, ha3, c3⟩ := Parts_Su_R B 1 (by omega) (by omega) z_sus d (by omega) w_sus m_sus hd1 hd2 r_sus (a2) (psV 1 (x.dat.nbs.map Nb.mar) ++ psV 1 (x.dat.his.map Hi.mar) ++ psV 1 (x.dat.ehs.map Eh.mar)) ha2 (by simp only [List.length_append, List.length_nil] at hlen ⊢; omega)
 obtain ⟨a4, ha4, c4⟩ := wr_var B 2 (k'4i x.dat.temp) (by omega) (by omega) (tempN_lt w_temp.1 w_temp.2) (a3) (psV 1 (x.dat.nbs.map Nb.mar) ++ psV 1 (x.dat.his.map Hi.mar) ++ psV 1 (x.dat.ehs.map Eh.mar) ++ psV 1 (x.dat.sus.map Su.mar)) ha3 (by simp only [List.length_append, List.length_nil] at hlen ⊢; omega)
 obtain ⟨a5, ha5, c5⟩ := wr_flag B x.dat.mono 3 (by omega) (by omega) (a4) (psV 1 (x.dat.nbs.map Nb.mar) ++ psV 1 (x.dat.his.map Hi.mar) ++ psV 1 (x.dat.ehs.map Eh.mar) ++ psV 1 (x.dat.sus.map Su.mar) ++ vrV 2 (k'4i x.dat.temp)) ha4 (by simp only [List.length_append, List.length_nil] at hlen ⊢; omega)
 obtain ⟨cu, cs⟩ := k'1x B (s := x.dat.u) ha5 (l := psV 1 (x.dat.nbs.map Nb.mar) ++ psV 1 (x.dat.his.map Hi.mar) ++ psV 1 (x.dat.ehs.map Eh.mar) ++ psV 1 (x.dat.sus.map Su.mar) ++ vrV 2 (k'4i x.dat.temp) ++ flV 3 x.dat.mono) (by simp only [List.length_append] at hlen ⊢; omega)
 generalize psV 1 (x.dat.nbs.map Nb.mar) ++ psV 1 (x.dat.his.map Hi.mar) ++ psV 1 (x.dat.ehs.map Eh.mar) ++ psV 1 (x.dat.sus.map Su.mar) ++ vrV 2 (k'4i x.dat.temp) ++ flV 3 x.dat.mono = o5 at c5 cu cs ⊢
 generalize psV 1 (x.dat.nbs.map Nb.mar) ++ psV 1 (x.dat.his.map Hi.mar) ++ psV 1 (x.dat.ehs.map Eh.mar) ++ psV 1 (x.dat.sus.map Su.mar) ++ vrV 2 (k'4i x.dat.temp) = o4 at c4 c5
 generalize psV 1 (x.dat.nbs.map Nb.mar) ++ psV 1 (x.dat.his.map Hi.mar) ++ psV 1 (x.dat.ehs.map Eh.mar) ++ psV 1 (x.dat.sus.map Su.mar) = o3 at c3 c4
 generalize psV 1 (x.dat.nbs.map Nb.mar) ++ psV 1 (x.dat.his.map Hi.mar) ++ psV 1 (x.dat.ehs.map Eh.mar) = o2 at c2 c3
 generalize psV 1 (x.dat.nbs.map Nb.mar) ++ psV 1 (x.dat.his.map Hi.mar) = o1 at c1 c2
 generalize psV 1 (x.dat.nbs.map Nb.mar) = o0 at c0 c1
 refine l_bw Tryz.func245 0 [] ?_
 refine l_wr [1] (c0) k'1s ha0 ?_
 refine l_wr [1] (c1) ha0 ha1 ?_
 refine l_wr [1] (c2) ha1 ha2 ?_
 refine l_wr [1] (c3) ha2 ha3 ?_
 rw [temp_u64 w_temp.1 w_temp.2]
 refine l_wr [1] (c4) ha3 ha4 ?_
 refine l_wr [1] (c5) ha4 ha5 ?_
 refine l_wr [1] (cu) ha5 (.inl rfl) ?_
 refine k'18 [1] (cs) rfl rfl rfl rfl rfl rfl rfl (by decide) (by simp [k'4 (.inl rfl)]) rfl rfl rfl rfl ?_
 exact Z
theorem onV_pos {k : Int} {x : In} (h1 : 0 < k) (h2 : k ≤ 5) : onV k x = paV (numK k) x.mar := by unfold onV; rw [if_pos ⟨by omega, h2⟩]
theorem onV_no {k : Int} {x : In} (h1 : ¬ 0 < k) : onV k x = [] := by unfold onV; rw [if_neg fun h => by have := h.1; omega]
set_option maxHeartbeats 4000000 in
theorem Me_Marshal_calls (x : Me) (xa : D) (d : Int) (hbig : x.sz < big) (hwf : x.wf) (hx : x.R xa) (hd1 : -9223372036854775808 ≤ d) (hd2 : d < 9223372036854775808) : k'0 (cx B) 185 [.d xa, .d (.int .i64 d)] [] (if x.may d then .tup [sT x.mar, .d .nili] else .tup [sT [], .d (Er.code 8).d]) [] := by
 have hm := Me_May_calls B x xa d hbig hx hd1 hd2
 have hlen := Me.mar_len x
 have hlen : x.mar.length < big := by omega
 have hxR := hx
 have hbig0 := hbig
 obtain ⟨z_nbs, l_nbs, z_his, l_his, z_ehs, l_ehs, z_sus, l_sus, z_mets, l_mets, rfl, r_nbs, r_his, r_ehs, r_sus, r_mets⟩ := hx
 unfold Me.sz at hbig
 cases hc : x.may d
 ·rw [hc] at hm
  refine l_bw Tryz.func185 0 [] ?_
  refine k'2 [] (hm) rfl rfl rfl ?_
  exact Z
 rw [hc] at hm
 have hc' := hc
 unfold Me.may at hc'
 simp only [Bool.and_eq_true, decide_eq_true_eq] at hc'
 obtain ⟨⟨⟨⟨⟨⟨hd, m_dat⟩, -⟩, -⟩, -⟩, m_mets⟩, hu⟩ := hc'
 obtain ⟨w_dat, w_mets⟩ := hwf
 unfold Me.mar Me.hb at hlen ⊢
 unfold mayOn at m_dat
 simp only [Bool.and_eq_true, decide_eq_true_eq] at m_dat
 obtain ⟨⟨⟨k1, k2⟩, -⟩, m_dat⟩ := m_dat
 by_cases hk : 0 < x.kind
 ·rw [if_neg (by omega)] at m_dat
  have hpt : 0 ≤ d - 1 ∧ x.dat.pts (d - 1 - 1) = true := by
   unfold mayI at m_dat
   simp only [Bool.and_eq_true, decide_eq_true_eq] at m_dat
   exact m_dat.1
  have c_w := mwrite_calls B x _ (d - 1) hbig0 w_dat hpt.2 hxR hpt.1 (by omega)
  have c_n := k'd B x.kind
  obtain ⟨-, -, n1, n2, -⟩ := numK_ok (k := x.kind) ⟨by omega, k2⟩
  rw [onV_pos hk k2] at hlen ⊢
  obtain ⟨a0, ha0, c0⟩ := k'25 B 1 x.name (by omega) (by omega) (.nw 71 2) [] k'1s (by simp only [List.length_append, List.length_nil] at hlen ⊢; omega)
  rw [List.nil_append] at c0
  obtain ⟨a1, ha1, c1⟩ := k'25 B 2 x.desc (by omega) (by omega) (a0) (txV 1 x.name) ha0 (by simp only [List.length_append, List.length_nil] at hlen ⊢; omega)
  obtain ⟨a2, ha2, c2⟩ := k'25 B 3 x.unit (by omega) (by omega) (a1) (txV 1 x.name ++ txV 2 x.desc) ha1 (by simp only [List.length_append, List.length_nil] at hlen ⊢; omega)
  obtain ⟨a3, ha3, c3⟩ := k'4m B (numK x.kind) x.dat.mar n1 n2 (a2) (txV 1 x.name ++ txV 2 x.desc ++ txV 3 x.unit) ha2 (by simp only [List.length_append, List.length_nil] at hlen ⊢; omega)
  obtain ⟨a4, ha4, c4⟩ := k'2i B 12 (by omega) (by omega) z_mets d (by omega) w_mets m_mets hd hd2 r_mets (a3) (txV 1 x.name ++ txV 2 x.desc ++ txV 3 x.unit ++ paV (numK x.kind) x.dat.mar) ha3 (by simp only [List.length_append, List.length_nil] at hlen ⊢; omega)
  obtain ⟨cu, cs⟩ := k'1x B (s := x.u) ha4 (l := txV 1 x.name ++ txV 2 x.desc ++ txV 3 x.unit ++ paV (numK x.kind) x.dat.mar ++ psV 12 (Kv.mars x.mets)) (by simp only [List.length_append] at hlen ⊢; omega)
  generalize txV 1 x.name ++ txV 2 x.desc ++ txV 3 x.unit ++ paV (numK x.kind) x.dat.mar ++ psV 12 (Kv.mars x.mets) = o4 at c4 cu cs ⊢
  generalize txV 1 x.name ++ txV 2 x.desc ++ txV 3 x.unit ++ paV (numK x.kind) x.dat.mar = o3 at c3 c4
  generalize txV 1 x.name ++ txV 2 x.desc ++ txV 3 x.unit = o2 at c2 c3
  generalize txV 1 x.name ++ txV 2 x.desc = o1 at c1 c2
  generalize txV 1 x.name = o0 at c0 c1
  refine l_bw Tryz.func185 0 [] ?_
  refine l_cw [] (hm) rfl rfl rfl ?_
  refine l_wr [1] (c0) k'1s ha0 ?_
  refine l_wr [1] (c1) ha0 ha1 ?_
  refine l_wr [1] (c2) ha1 ha2 ?_
  rw [show decide (x.kind > 0) = true from decide_eq_true hk]
  refine Y ?_
  refine x_cw [] (c_n) rfl rfl rfl ?_
  rw [k'12 1 (by omega) (by omega) (by omega) hd2]
  refine x_cw [] (c_w) rfl rfl rfl ?_
  refine x_call [1] (c3) rfl rfl rfl rfl rfl rfl (by decide) (by simp [k'4 ha2]) (by simp [k'4 ha3]) rfl rfl rfl rfl ?_
  refine Y ?_
  refine l_wr [1] (c4) ha3 ha4 ?_
  refine l_wr [1] (cu) ha4 (.inl rfl) ?_
  refine k'18 [1] (cs) rfl rfl rfl rfl rfl rfl rfl (by decide) (by simp [k'4 (.inl rfl)]) rfl rfl rfl rfl ?_
  exact Z
 ·rw [onV_no hk, List.append_nil] at hlen ⊢
  obtain ⟨a0, ha0, c0⟩ := k'25 B 1 x.name (by omega) (by omega) (.nw 71 2) [] k'1s (by simp only [List.length_append, List.length_nil] at hlen ⊢; omega)
  rw [List.nil_append] at c0
  obtain ⟨a1, ha1, c1⟩ := k'25 B 2 x.desc (by omega) (by omega) (a0) (txV 1 x.name) ha0 (by simp only [List.length_append, List.length_nil] at hlen ⊢; omega)
  obtain ⟨a2, ha2, c2⟩ := k'25 B 3 x.unit (by omega) (by omega) (a1) (txV 1 x.name ++ txV 2 x.desc) ha1 (by simp only [List.length_append, List.length_nil] at hlen ⊢; omega)
  obtain ⟨a3, ha3, c3⟩ := k'2i B 12 (by omega) (by omega) z_mets d (by omega) w_mets m_mets hd hd2 r_mets (a2) (txV 1 x.name ++ txV 2 x.desc ++ txV 3 x.unit) ha2 (by simp only [List.length_append, List.length_nil] at hlen ⊢; omega)
  obtain ⟨cu, cs⟩ := k'1x B (s := x.u) ha3 (l := txV 1 x.name ++ txV 2 x.desc ++ txV 3 x.unit ++ psV 12 (Kv.mars x.mets)) (by simp only [List.length_append] at hlen ⊢; omega)
  generalize txV 1 x.name ++ txV 2 x.desc ++ txV 3 x.unit ++ psV 12 (Kv.mars x.mets) = o3 at c3 cu cs ⊢
  generalize txV 1 x.name ++ txV 2 x.desc ++ txV 3 x.unit = o2 at c2 c3
  generalize txV 1 x.name ++ txV 2 x.desc = o1 at c1 c2
  generalize txV 1 x.name = o0 at c0 c1
  refine l_bw Tryz.func185 0 [] ?_
  refine l_cw [] (hm) rfl rfl rfl ?_
  refine l_wr [1] (c0) k'1s ha0 ?_
  refine l_wr [1] (c1) ha0 ha1 ?_
  refine l_wr [1] (c2) ha1 ha2 ?_
  rw [show decide (x.kind > 0) = false from decide_eq_false (by omega)]
  refine Y ?_
  refine l_wr [1] (c3) ha2 ha3 ?_
  refine l_wr [1] (cu) ha3 (.inl rfl) ?_
  refine k'18 [1] (cs) rfl rfl rfl rfl rfl rfl rfl (by decide) (by simp [k'4 (.inl rfl)]) rfl rfl rfl rfl ?_
  exact Z
theorem Parts_Me_wr : PartsP B 184 MeSh := k'33 B Tryz.func184
theorem Parts_Me_R : k'39 B 184 185 Me.R Me.sz Me.wf Me.may Me.mar := Parts_R B (Parts_Me_wr B) Me.Rs_sh (Me_Marshal_calls B)
