/- Number: the reference tells if two are alike. -/
import Derived.Test.YtcfkbpddmdfbaaaGreatDoorSM
import Derived.Test.YtcfkbpddmdfbaaaGreatDoorNW
import Derived.Test.YtcfkbpddmdfbaaaGreatDoorRW
import Derived.Test.YtcfkbpddmdfbaaaGreatDoorSD
import Derived.Test.YtcfkbpddmdfbaaaGreatDoorRR
set_option linter.unusedSimpArgs false
set_option linter.unusedVariables false
set_option maxRecDepth 100000
namespace Go.Proofs.YtcfkbpddmdfbaaaGreatDoor
open Go Go.Abs
variable (B : Fr)
section
def Nb.setU (x : Nb) (u : List UInt8) : Nb := { x with u := u }
variable {s w t : List UInt8} {d : Int} {x y : Nb}
end
section
theorem tabNb_calls : k'0 (cx B) 267 [] [] (.d (.sl false ([17, 25, 33, 42, 49, 58, 64].map iD))) [] := by
 refine l_bw Tryz.func267 0 [] ?_
 (try refine k'1t rfl ?_)
 refine k'1 (.buildSlice (es := [17, 25, 33, 42, 49, 58, 64].map iD) rfl rfl rfl rfl rfl rfl (by intro x hx; simp [iD] at hx; rcases hx with rfl | rfl | rfl | rfl | rfl | rfl | rfl <;> rfl) (by decide) (by decide) (by decide)) rfl rfl ?_
 exact Z
theorem tbN_big {n k : Nat} (hn : 9 ≤ n) : tbN n k = false := by
 unfold tbN
 simp
 (repeat' split) <;> omega
theorem tk_Nb (n k : Nat) (hk : k < 8) : tkB [17, 25, 33, 42, 49, 58, 64] n k = tbN n k := by
 by_cases hn : n < 9
 ·exact (by decide : ∀ n < 9, ∀ k < 8, tkB [17, 25, 33, 42, 49, 58, 64] n k = tbN n k) n hn k hk
 ·rw [show tkB [17, 25, 33, 42, 49, 58, 64] n k = false by unfold tkB; simp; omega, tbN_big (by omega)]
end
section
set_option maxHeartbeats 8000000 in
theorem rMayNb_calls (x : Nb) (xa : D) (d : Int) (hbig : x.sz < big) (hx : x.R xa) (hd1 : -9223372036854775808 ≤ d) (hd2 : d < 9223372036854775808) : k'0 (cx B) 204 [.d xa, .d (.int .i64 d)] [] (.d (.bool (x.may d))) [] := by
 obtain ⟨z_attrs, l_attrs, z_exs, l_exs, rfl, r_attrs, r_exs⟩ := hx
 unfold Nb.sz at hbig
 unfold big at hbig
 have c_u := k'c B [17, 25, 33, 42, 49, 58, 64] (by decide) (by decide) x.u d (by unfold big; omega) (by omega) hd2
 rw [k'47 tk_Nb] at c_u
 have c_t := tabNb_calls B
 have q_attrs : 0 ≤ d → k'0 (cx B) 148 [.d (.sl z_attrs l_attrs), .d (.int .i64 (d - 1))] [] (.d (.bool (x.attrs.all fun k => k.may (d - 1)))) [] := fun h => k'15 B x.attrs z_attrs l_attrs (d - 1) (by unfold big; omega) r_attrs (by omega) (by omega)
 have q_exs : 0 ≤ d → k'0 (cx B) 266 [.d (.sl z_exs l_exs), .d (.int .i64 (d - 1))] [] (.d (.bool (x.exs.all fun k => k.may (d - 1)))) [] := fun h => k'3t B z_exs (d - 1) (by unfold big; omega) (by omega) (by omega) r_exs
 have hR : x.may d = (decide (d ≥ 0) && (decide (x.kind ≥ 0) && (decide (x.kind ≤ 2) && ((decide (x.kind > 0) || ((x.n : Int) == 0)) && ((x.attrs.all fun k => k.may (d - 1)) && ((x.exs.all fun k => k.may (d - 1)) && k'1a tbN x.u d)))))) := by
  unfold Nb.may mayNum
  rw [show ((x.n : Int) == 0) = (x.n == 0) from ibeq x.n 0]
  rw [Bool.eq_iff_iff]
  simp only [Bool.and_eq_true, ge_iff_le, decide_eq_true_eq, Bool.not_eq_true', decide_eq_false_iff_not, Int.not_lt]
  constructor <;> (intro h; simp only [h, and_self, true_and, and_true])
 rw [hR]
 clear hR
 refine l_bw Tryz.func204 0 [] ?_
 refine xw ?_
 cases hd : decide (d ≥ 0)
 ·refine xw ?_
  exact Z
 have hd0 : 0 ≤ d := of_decide_eq_true hd
 replace q_attrs := q_attrs hd0
 replace q_exs := q_exs hd0
 rw [decide_eq_true hd0, Bool.true_and] at c_u
 refine xw ?_
 refine Y ?_
 cases h_k1 : decide (x.kind ≥ 0)
 ·refine xw ?_
  exact Z
 refine xw ?_
 refine Y ?_
 cases h_k2 : decide (x.kind ≤ 2)
 ·refine xw ?_
  exact Z
 refine xw ?_
 refine Y ?_
 cases h_k3 : decide (x.kind > 0)
 rotate_left
 ·refine xw ?_
  refine Y ?_
  rw [k'5 1 (by omega) (by omega) (by omega) hd2]
  refine k'3 [] (q_attrs) rfl rfl rfl ?_
  refine xw ?_
  refine Y ?_
  cases h_attrs : (x.attrs.all fun k => k.may (d - 1))
  ·refine xw ?_
   exact Z
  refine xw ?_
  refine Y ?_
  rw [k'5 1 (by omega) (by omega) (by omega) hd2]
  refine k'3 [] (q_exs) rfl rfl rfl ?_
  refine xw ?_
  refine Y ?_
  cases h_exs : (x.exs.all fun k => k.may (d - 1))
  ·refine xw ?_
   exact Z
  refine xw ?_
  refine Y ?_
  refine k'3 [] (c_t) rfl rfl rfl ?_
  refine xw ?_
  refine Y ?_
  refine k'3 [] (c_u) rfl rfl rfl ?_
  refine xw ?_
  exact Z
 refine xw ?_
 refine Y ?_
 cases h_n : ((x.n : Int) == 0)
 ·refine xw ?_
  exact Z
 refine xw ?_
 refine Y ?_
 rw [k'5 1 (by omega) (by omega) (by omega) hd2]
 refine k'3 [] (q_attrs) rfl rfl rfl ?_
 refine xw ?_
 refine Y ?_
 cases h_attrs : (x.attrs.all fun k => k.may (d - 1))
 ·refine xw ?_
  exact Z
 refine xw ?_
 refine Y ?_
 rw [k'5 1 (by omega) (by omega) (by omega) hd2]
 refine k'3 [] (q_exs) rfl rfl rfl ?_
 refine xw ?_
 refine Y ?_
 cases h_exs : (x.exs.all fun k => k.may (d - 1))
 ·refine xw ?_
  exact Z
 refine xw ?_
 refine Y ?_
 refine k'3 [] (c_t) rfl rfl rfl ?_
 refine xw ?_
 refine Y ?_
 refine k'3 [] (c_u) rfl rfl rfl ?_
 refine xw ?_
 exact Z
set_option maxHeartbeats 8000000 in
theorem rNb_calls (x : Nb) (xa : D) (d : Int) (hbig : x.sz < big) (hwf : x.wf) (hm : x.may d = true) (hx : x.R xa) : k'0 (cx B) 322 [.d xa] [] (sT x.mar) [] := by
 have hlen := Nb.mar_len x
 obtain ⟨z_attrs, l_attrs, z_exs, l_exs, rfl, r_attrs, r_exs⟩ := hx
 unfold Nb.may at hm
 simp only [Bool.and_eq_true, decide_eq_true_eq] at hm
 obtain ⟨⟨⟨⟨hd, m_kn⟩, m_exs⟩, m_attrs⟩, hu⟩ := hm
 obtain ⟨w_attrs, w_start, w_time, w_n, w_exs, w_flags⟩ := hwf
 have hlen : x.mar.length < big := by omega
 unfold Nb.sz at hbig
 unfold Nb.mar Nb.hb at hlen ⊢
 have c0 : k'0 (cx B) 399 [iT 2, uT x.start] [] (sT (fxV 2 x.start)) [] := k'e B 2 x.start (by omega) (by omega) w_start
 have c1 : k'0 (cx B) 399 [iT 3, uT x.time] [] (sT (fxV 3 x.time)) [] := k'e B 3 x.time (by omega) (by omega) w_time
 have c2 : k'0 (cx B) 400 [.d (.bool (x.kind == 1)), sT (e8V 4 x.n)] [] (sT (opV 4 (x.kind == 1) x.n)) [] := if1_calls B _ _
 have e2 := k'1y B 4 x.n (by omega) (by omega) w_n
 have c3 : k'0 (cx B) 401 [iT 5, .d (.sl z_exs l_exs)] [] (sT (psV 5 (x.exs.map Em.mar))) [] := k'3q B 5 (by omega) (by omega) z_exs (d - 1) (by omega) w_exs m_exs r_exs
 have c4 : k'0 (cx B) 400 [.d (.bool (x.kind == 2)), sT (e8V 6 x.n)] [] (sT (opV 6 (x.kind == 2) x.n)) [] := if1_calls B _ _
 have e4 := k'1y B 6 x.n (by omega) (by omega) w_n
 have c5 : k'0 (cx B) 150 [iT 7, .d (.sl z_attrs l_attrs)] [] (sT (psV 7 (Kv.mars x.attrs))) [] := k'1q B 7 (by omega) (by omega) x.attrs z_attrs l_attrs (d - 1) (by omega) w_attrs m_attrs r_attrs
 have c6 : k'0 (cx B) 42 [iT 8, uT x.flags] [] (sT (vrV 8 x.flags)) [] := k'18 B 8 x.flags (by omega) (by omega) (by omega)
 generalize fxV 2 x.start = o0 at *
 generalize fxV 3 x.time = o1 at *
 generalize opV 4 (x.kind == 1) x.n = o2 at *
 generalize psV 5 (x.exs.map Em.mar) = o3 at *
 generalize opV 6 (x.kind == 2) x.n = o4 at *
 generalize psV 7 (Kv.mars x.attrs) = o5 at *
 generalize vrV 8 x.flags = o6 at *
 unfold big at hlen
 simp only [List.length_append] at hlen
 refine l_bw Tryz.func322 0 [] ?_
 refine x_cw [] (c0) rfl rfl rfl ?_
 refine x_cw [] (c1) rfl rfl rfl ?_
 refine k'12 (.addStr rfl rfl rfl (by (try simp only [List.length_append]); omega)) rfl rfl rfl ?_
 refine Y ?_
 refine x_cw [] (e2) rfl rfl rfl ?_
 refine x_cw [] (c2) rfl rfl rfl ?_
 refine k'12 (.addStr rfl rfl rfl (by (try simp only [List.length_append]); omega)) rfl rfl rfl ?_
 refine Y ?_
 refine x_cw [] (c3) rfl rfl rfl ?_
 refine k'12 (.addStr rfl rfl rfl (by (try simp only [List.length_append]); omega)) rfl rfl rfl ?_
 refine Y ?_
 refine x_cw [] (e4) rfl rfl rfl ?_
 refine x_cw [] (c4) rfl rfl rfl ?_
 refine k'12 (.addStr rfl rfl rfl (by (try simp only [List.length_append]); omega)) rfl rfl rfl ?_
 refine Y ?_
 refine x_cw [] (c5) rfl rfl rfl ?_
 refine k'12 (.addStr rfl rfl rfl (by (try simp only [List.length_append]); omega)) rfl rfl rfl ?_
 refine Y ?_
 rw [show IntKind.u64.wrap (x.flags : Int) = (x.flags : Int) by rw [IntKind.wrap_u64]; omega]
 refine x_cw [] (c6) rfl rfl rfl ?_
 refine k'12 (.addStr rfl rfl rfl (by (try simp only [List.length_append]); omega)) rfl rfl rfl ?_
 refine Y ?_
 refine k'12 (.addStr rfl rfl rfl (by (try simp only [List.length_append]); omega)) rfl rfl rfl ?_
 exact Z
end
section
theorem k'3s (h : Bool) (n : Nat) : k'0 (cx B) 356 [.d (.agg [.bool h, .int .u64 n])] [] (.d (.bool (k'l h n))) [] := by
 unfold k'l
 cases h
 rotate_left
 ·refine l_b0 Tryz.func356 0 [] ?_
  exact Z
 rw [show (false || n == 0) = ((n : Int) == 0) from (ibeq n 0).symm]
 refine l_b0 Tryz.func356 0 [] ?_
 exact Z
theorem opts_calls (a b c : Bool) (k l m : Nat) : k'0 (cx B) 268 [.d (.agg [.bool a, .int .u64 k]), .d (.agg [.bool b, .int .u64 l]), .d (.agg [.bool c, .int .u64 m])] [] (.d (.bool (k'l a k && k'l b l && k'l c m))) [] := by
 have c1 := k'3s B a k
 have c2 := k'3s B b l
 have c3 := k'3s B c m
 refine l_bw Tryz.func268 0 [] ?_
 refine l_cw [] (c1) rfl rfl rfl ?_
 cases e1 : k'l a k
 ·exact Z
 refine Y ?_
 refine k'23 [] (c2) rfl rfl rfl rfl rfl ?_
 cases e2 : k'l b l
 ·exact Z
 refine Y ?_
 refine k'a [] (c3) rfl rfl rfl rfl rfl ?_
 exact Z
theorem k'29 (n : Nat) (h : Bool) (v : Nat) (h1 : 1 ≤ n) (h2 : n ≤ 536870911) (hv : v < 2 ^ 64) : k'0 (cx B) 402 [iT n, .d (.agg [.bool h, .int .u64 v])] [] (sT (opV n h v)) [] := by
 cases h
 ·refine l_b0 Tryz.func402 0 [] ?_
  exact Z
 have c : k'0 (cx B) 353 [iT n, uT v] [] (sT (opV n true v)) [] := k'1y B n v h1 h2 hv
 refine l_bw Tryz.func402 0 [] ?_
 refine k'2 [] (c) rfl rfl rfl ?_
 exact Z
theorem k'4g (z : Bool) (n : Nat) (cs : List Nat) (h1 : 1 ≤ n) (h2 : n ≤ 536870911) (hc : ∀ m ∈ cs, m < 2 ^ 64) (hl : 8 * cs.length < big) : k'0 (cx B) 403 [iT n, .d (.sl z (cs.map uD))] [] (sT (pwV n cs)) [] := by
 have hlen : (cs.map uD).length = cs.length := by simp
 have hpl := k'39 cs
 unfold big at hl
 refine l_bw Tryz.func403 0 [] ?_
 refine k'8 (fun i : Nat => cs.length - i) (fun i => [(0, iT n), (1, .d (.sl z (cs.map uD))), (5, sT (k'4r (cs.take i))), (6, iT i)]) (fun _ => []) (fun i => i ≤ cs.length) 0 (by omega) ⟨rfl, rfl, rfl, rfl, trivial⟩ rfl 0 rfl (fun _ => rfl) (fun _ => rfl) (fun _ => rfl) ?_
 intro i i1
 refine Y ?_
 rw [hlen]
 by_cases hlt : i < cs.length
 ·rw [show decide ((i : Int) < cs.length) = true from decide_eq_true (by omega)]
  obtain ⟨x, hx⟩ : ∃ x, cs[i]? = some x := ⟨_, List.getElem?_eq_getElem hlt⟩
  have hdx : (cs.map uD)[i]? = some (uD x) := by rw [List.getElem?_map, hx]; rfl
  have htk := k'39 (cs.take i)
  have hpx := k'3x x
  have hpk : k'4r (cs.take i) ++ le8 x = k'4r (cs.take (i + 1)) := by rw [List.take_add_one, hx]; simp [k'4r]
  refine Y ?_
  refine k'1 (.indexAddr (k := .i64) (n := i) (es := cs.map uD) (u := uD x) rfl rfl rfl rfl (.inl ⟨_, rfl⟩) rfl (by omega) (by simpa using hdx) rfl (by decide)) rfl rfl ?_
  refine Y ?_
  refine l_cw [] (rEight_calls B x (hc x (List.mem_of_getElem? hx))) rfl rfl rfl ?_
  refine k'1 (.addStr (a := k'4r (cs.take i)) (b := le8 x) rfl rfl rfl (by simp at htk; omega)) rfl rfl ?_
  rw [hpk]
  refine Y ?_
  rw [wS i (by omega)]
  exact ⟨i + 1, by omega, by omega, ⟨rfl, rfl, rfl, rfl, trivial⟩, rfl, k'z rfl⟩
 ·have hge : i = cs.length := by omega
  subst hge
  rw [List.take_length, show decide ((cs.length : Int) < cs.length) = false from decide_eq_false (by omega)]
  have h3 : k'0 (cx B) 43 [iT n, sT (k'4r cs)] [] (sT (pwV n cs)) [] := k'j B n (k'4r cs) h1 h2 (by unfold big; omega)
  refine Y ?_
  refine k'2 [] (h3) rfl rfl rfl ?_
  exact Z
end
section
def Hi.setU (x : Hi) (u : List UInt8) : Hi := { x with u := u }
variable {s w t : List UInt8} {d : Int} {x y : Hi}
end
section
theorem tabHi_calls : k'0 (cx B) 269 [] [] (.d (.sl false ([17, 25, 33, 41, 49, 50, 57, 58, 66, 74, 80, 89, 97].map iD))) [] := by
 refine l_bw Tryz.func269 0 [] ?_
 (try refine k'1t rfl ?_)
 refine k'1 (.buildSlice (es := [17, 25, 33, 41, 49, 50, 57, 58, 66, 74, 80, 89, 97].map iD) rfl rfl rfl rfl rfl rfl (by intro x hx; simp [iD] at hx; rcases hx with rfl | rfl | rfl | rfl | rfl | rfl | rfl | rfl | rfl | rfl | rfl | rfl | rfl <;> rfl) (by decide) (by decide) (by decide)) rfl rfl ?_
 exact Z
theorem tbH_big {n k : Nat} (hn : 13 ≤ n) : tbH n k = false := by
 unfold tbH
 simp
 (repeat' split) <;> omega
theorem tk_Hi (n k : Nat) (hk : k < 8) : tkB [17, 25, 33, 41, 49, 50, 57, 58, 66, 74, 80, 89, 97] n k = tbH n k := by
 by_cases hn : n < 13
 ·exact (by decide : ∀ n < 13, ∀ k < 8, tkB [17, 25, 33, 41, 49, 50, 57, 58, 66, 74, 80, 89, 97] n k = tbH n k) n hn k hk
 ·rw [show tkB [17, 25, 33, 41, 49, 50, 57, 58, 66, 74, 80, 89, 97] n k = false by unfold tkB; simp; omega, tbH_big (by omega)]
end
