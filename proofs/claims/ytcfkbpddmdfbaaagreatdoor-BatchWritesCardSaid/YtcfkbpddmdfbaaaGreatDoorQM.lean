/- Hist: the reference tells if they may be, and their bytes. -/
import Derived.Test.YtcfkbpddmdfbaaaGreatDoorSM
import Derived.Test.YtcfkbpddmdfbaaaGreatDoorHR
import Derived.Test.YtcfkbpddmdfbaaaGreatDoorSD
import Derived.Test.YtcfkbpddmdfbaaaGreatDoorQW
import Derived.Test.YtcfkbpddmdfbaaaGreatDoorR6
set_option linter.unusedSimpArgs false
set_option linter.unusedVariables false
set_option maxRecDepth 100000
namespace Go.Proofs.YtcfkbpddmdfbaaaGreatDoor
open Go Go.Abs
variable (B : Fr)
section
set_option maxHeartbeats 8000000 in
theorem rMayHi_calls (x : Hi) (xa : D) (d : Int) (hbig : x.sz < big) (hx : x.R xa) (hd1 : -9223372036854775808 ≤ d) (hd2 : d < 9223372036854775808) : k'0 (cx B) 205 [.d xa, .d (.int .i64 d)] [] (.d (.bool (x.may d))) [] := by
 obtain ⟨z_attrs, l_attrs, z_counts, z_bounds, z_exs, l_exs, rfl, r_attrs, r_exs⟩ := hx
 unfold Hi.sz at hbig
 unfold big at hbig
 have c_u := k'c B [17, 25, 33, 41, 49, 50, 57, 58, 66, 74, 80, 89, 97] (by decide) (by decide) x.u d (by unfold big; omega) (by omega) hd2
 rw [k'47 tk_Hi] at c_u
 have c_t := tabHi_calls B
 have q_attrs : 0 ≤ d → k'0 (cx B) 148 [.d (.sl z_attrs l_attrs), .d (.int .i64 (d - 1))] [] (.d (.bool (x.attrs.all fun k => k.may (d - 1)))) [] := fun h => k'15 B x.attrs z_attrs l_attrs (d - 1) (by unfold big; omega) r_attrs (by omega) (by omega)
 have q_exs : 0 ≤ d → k'0 (cx B) 266 [.d (.sl z_exs l_exs), .d (.int .i64 (d - 1))] [] (.d (.bool (x.exs.all fun k => k.may (d - 1)))) [] := fun h => k'3t B z_exs (d - 1) (by unfold big; omega) (by omega) (by omega) r_exs
 have c_opts := opts_calls B x.sumH x.minH x.maxH x.sum x.min x.max
 have hR : x.may d = (decide (d ≥ 0) && ((k'l x.sumH x.sum && k'l x.minH x.min && k'l x.maxH x.max) && ((x.exs.all fun k => k.may (d - 1)) && ((x.attrs.all fun k => k.may (d - 1)) && k'1a tbH x.u d)))) := by
  unfold Hi.may
  rw [Bool.eq_iff_iff]
  simp only [Bool.and_eq_true, ge_iff_le, decide_eq_true_eq, Bool.not_eq_true', decide_eq_false_iff_not, Int.not_lt]
  constructor <;> (intro h; simp only [h, and_self, true_and, and_true])
 rw [hR]
 clear hR
 refine l_bw Tryz.func205 0 [] ?_
 refine xw ?_
 cases hd : decide (d ≥ 0)
 ·refine xw ?_
  exact Z
 have hd0 : 0 ≤ d := of_decide_eq_true hd
 replace q_attrs := q_attrs hd0
 replace q_exs := q_exs hd0
 rw [decide_eq_true hd0, Bool.true_and] at c_u
 refine xw ?_
 refine Y ?_
 refine k'3 [] (c_opts) rfl rfl rfl ?_
 refine xw ?_
 refine Y ?_
 cases h_opts : (k'l x.sumH x.sum && k'l x.minH x.min && k'l x.maxH x.max)
 ·refine xw ?_
  exact Z
 refine xw ?_
 refine Y ?_
 rw [k'5 1 (by omega) (by omega) (by omega) hd2]
 refine k'3 [] (q_exs) rfl rfl rfl ?_
 refine xw ?_
 refine Y ?_
 cases h_exs : (x.exs.all fun k => k.may (d - 1))
 ·refine xw ?_
  exact Z
 refine xw ?_
 refine Y ?_
 rw [k'5 1 (by omega) (by omega) (by omega) hd2]
 refine k'3 [] (q_attrs) rfl rfl rfl ?_
 refine xw ?_
 refine Y ?_
 cases h_attrs : (x.attrs.all fun k => k.may (d - 1))
 ·refine xw ?_
  exact Z
 refine xw ?_
 refine Y ?_
 refine k'3 [] (c_t) rfl rfl rfl ?_
 refine xw ?_
 refine Y ?_
 refine k'3 [] (c_u) rfl rfl rfl ?_
 refine xw ?_
 exact Z
set_option maxHeartbeats 8000000 in
theorem rHi_calls (x : Hi) (xa : D) (d : Int) (hbig : x.sz < big) (hwf : x.wf) (hm : x.may d = true) (hx : x.R xa) : k'0 (cx B) 323 [.d xa] [] (sT x.mar) [] := by
 have hlen := Hi.mar_len x
 obtain ⟨z_attrs, l_attrs, z_counts, z_bounds, z_exs, l_exs, rfl, r_attrs, r_exs⟩ := hx
 unfold Hi.may at hm
 simp only [Bool.and_eq_true, decide_eq_true_eq] at hm
 obtain ⟨⟨⟨⟨hd, ⟨⟨m_sum, m_min⟩, m_max⟩⟩, m_exs⟩, m_attrs⟩, hu⟩ := hm
 obtain ⟨w_attrs, w_start, w_time, w_count, w_sum, w_min, w_max, w_counts, w_bounds, w_exs, w_flags⟩ := hwf
 have hlen : x.mar.length < big := by omega
 unfold Hi.sz at hbig
 unfold Hi.mar Hi.hb at hlen ⊢
 have c0 : k'0 (cx B) 399 [iT 2, uT x.start] [] (sT (fxV 2 x.start)) [] := k'e B 2 x.start (by omega) (by omega) w_start
 have c1 : k'0 (cx B) 399 [iT 3, uT x.time] [] (sT (fxV 3 x.time)) [] := k'e B 3 x.time (by omega) (by omega) w_time
 have c2 : k'0 (cx B) 399 [iT 4, uT x.count] [] (sT (fxV 4 x.count)) [] := k'e B 4 x.count (by omega) (by omega) w_count
 have c3 : k'0 (cx B) 402 [iT 5, .d (.agg [.bool x.sumH, .int .u64 x.sum])] [] (sT (opV 5 x.sumH x.sum)) [] := k'29 B 5 x.sumH x.sum (by omega) (by omega) w_sum
 have c4 : k'0 (cx B) 403 [iT 6, .d (.sl z_counts (x.counts.map uD))] [] (sT (pwV 6 x.counts)) [] := k'4g B z_counts 6 x.counts (by omega) (by omega) w_counts (by unfold big at hbig ⊢; omega)
 have c5 : k'0 (cx B) 403 [iT 7, .d (.sl z_bounds (x.bounds.map uD))] [] (sT (pwV 7 x.bounds)) [] := k'4g B z_bounds 7 x.bounds (by omega) (by omega) w_bounds (by unfold big at hbig ⊢; omega)
 have c6 : k'0 (cx B) 401 [iT 8, .d (.sl z_exs l_exs)] [] (sT (psV 8 (x.exs.map Em.mar))) [] := k'3q B 8 (by omega) (by omega) z_exs (d - 1) (by omega) w_exs m_exs r_exs
 have c7 : k'0 (cx B) 150 [iT 9, .d (.sl z_attrs l_attrs)] [] (sT (psV 9 (Kv.mars x.attrs))) [] := k'1q B 9 (by omega) (by omega) x.attrs z_attrs l_attrs (d - 1) (by omega) w_attrs m_attrs r_attrs
 have c8 : k'0 (cx B) 42 [iT 10, uT x.flags] [] (sT (vrV 10 x.flags)) [] := k'18 B 10 x.flags (by omega) (by omega) (by omega)
 have c9 : k'0 (cx B) 402 [iT 11, .d (.agg [.bool x.minH, .int .u64 x.min])] [] (sT (opV 11 x.minH x.min)) [] := k'29 B 11 x.minH x.min (by omega) (by omega) w_min
 have c10 : k'0 (cx B) 402 [iT 12, .d (.agg [.bool x.maxH, .int .u64 x.max])] [] (sT (opV 12 x.maxH x.max)) [] := k'29 B 12 x.maxH x.max (by omega) (by omega) w_max
 generalize fxV 2 x.start = o0 at *
 generalize fxV 3 x.time = o1 at *
 generalize fxV 4 x.count = o2 at *
 generalize opV 5 x.sumH x.sum = o3 at *
 generalize pwV 6 x.counts = o4 at *
 generalize pwV 7 x.bounds = o5 at *
 generalize psV 8 (x.exs.map Em.mar) = o6 at *
 generalize psV 9 (Kv.mars x.attrs) = o7 at *
 generalize vrV 10 x.flags = o8 at *
 generalize opV 11 x.minH x.min = o9 at *
 generalize opV 12 x.maxH x.max = o10 at *
 unfold big at hlen
 simp only [List.length_append] at hlen
 refine l_bw Tryz.func323 0 [] ?_
 refine x_cw [] (c0) rfl rfl rfl ?_
 refine x_cw [] (c1) rfl rfl rfl ?_
 refine k'12 (.addStr rfl rfl rfl (by (try simp only [List.length_append]); omega)) rfl rfl rfl ?_
 refine Y ?_
 refine x_cw [] (c2) rfl rfl rfl ?_
 refine k'12 (.addStr rfl rfl rfl (by (try simp only [List.length_append]); omega)) rfl rfl rfl ?_
 refine Y ?_
 refine x_cw [] (c3) rfl rfl rfl ?_
 refine k'12 (.addStr rfl rfl rfl (by (try simp only [List.length_append]); omega)) rfl rfl rfl ?_
 refine Y ?_
 refine x_cw [] (c4) rfl rfl rfl ?_
 refine k'12 (.addStr rfl rfl rfl (by (try simp only [List.length_append]); omega)) rfl rfl rfl ?_
 refine Y ?_
 refine x_cw [] (c5) rfl rfl rfl ?_
 refine k'12 (.addStr rfl rfl rfl (by (try simp only [List.length_append]); omega)) rfl rfl rfl ?_
 refine Y ?_
 refine x_cw [] (c6) rfl rfl rfl ?_
 refine k'12 (.addStr rfl rfl rfl (by (try simp only [List.length_append]); omega)) rfl rfl rfl ?_
 refine Y ?_
 refine x_cw [] (c7) rfl rfl rfl ?_
 refine k'12 (.addStr rfl rfl rfl (by (try simp only [List.length_append]); omega)) rfl rfl rfl ?_
 refine Y ?_
 rw [show IntKind.u64.wrap (x.flags : Int) = (x.flags : Int) by rw [IntKind.wrap_u64]; omega]
 refine x_cw [] (c8) rfl rfl rfl ?_
 refine k'12 (.addStr rfl rfl rfl (by (try simp only [List.length_append]); omega)) rfl rfl rfl ?_
 refine Y ?_
 refine x_cw [] (c9) rfl rfl rfl ?_
 refine k'12 (.addStr rfl rfl rfl (by (try simp only [List.length_append]); omega)) rfl rfl rfl ?_
 refine Y ?_
 refine x_cw [] (c10) rfl rfl rfl ?_
 refine k'12 (.addStr rfl rfl rfl (by (try simp only [List.length_append]); omega)) rfl rfl rfl ?_
 refine Y ?_
 refine k'12 (.addStr rfl rfl rfl (by (try simp only [List.length_append]); omega)) rfl rfl rfl ?_
 exact Z
end
section
theorem rside_calls (z : Bool) (n : Nat) (h : Bool) (b : Bk) (h1 : 1 ≤ n) (h2 : n ≤ 536870911) (hb : b.sz < big) (hw : b.wf) : k'0 (cx B) 405 [iT n, .d (.bool h), .d (bkZ z b.off b.cs b.u)] [] (sT (sdV n h b)) [] := by
 cases h
 ·refine l_b0 Tryz.func405 0 [] ?_
  exact Z
 have hml : (marB b.off b.cs b.u).length + 20 ≤ b.sz := b.mar_len
 have c1 := rBuckets_calls B z b.off b.cs b.u hw.1.1 hw.1.2 hw.2 (by unfold Bk.sz at hb; unfold big at *; omega)
 have c2 : k'0 (cx B) 41 [iT n, sT (marB b.off b.cs b.u)] [] (sT (sdV n true b)) [] := k'7 B n _ h1 h2 (by omega)
 refine l_bw Tryz.func405 0 [] ?_
 refine l_cw [] (c1) rfl rfl rfl ?_
 refine k'2 [] (c2) rfl rfl rfl ?_
 exact Z
theorem rbare_calls (z : Bool) (b : Bk) : k'0 (cx B) 271 [.d (bkZ z b.off b.cs b.u)] [] (.d (.bool b.isNo)) [] := by
 rw [show b.isNo = (b.off == 0 && (((b.cs.map uD).length : Int) == 0 && b.u == [])) by
  unfold Bk.isNo
  rw [show (((b.cs.map uD).length : Int) == 0) = (b.cs == []) by
   rw [List.length_map]
   cases b.cs with
   | nil => rfl
   | cons c cs => rw [show ((c :: cs) == []) = false from rfl]; simp; omega]
  rw [Bool.and_assoc, Bool.and_comm (b.u == [])]]
 refine l_bw Tryz.func271 0 [] ?_
 cases e1 : (b.off == 0)
 ·exact Z
 refine Y ?_
 cases e2 : (((b.cs.map uD).length : Int) == 0)
 ·exact Z
 exact Z
end
section
def Eh.setU (x : Eh) (u : List UInt8) : Eh := { x with u := u }
variable {s w t : List UInt8} {d : Int} {x y : Eh}
end
section
theorem tabEh_calls : k'0 (cx B) 272 [] [] (.d (.sl false ([10, 17, 25, 33, 41, 48, 57, 66, 74, 80, 90, 97, 105, 113].map iD))) [] := by
 refine l_bw Tryz.func272 0 [] ?_
 (try refine k'1t rfl ?_)
 refine k'1 (.buildSlice (es := [10, 17, 25, 33, 41, 48, 57, 66, 74, 80, 90, 97, 105, 113].map iD) rfl rfl rfl rfl rfl rfl (by intro x hx; simp [iD] at hx; rcases hx with rfl | rfl | rfl | rfl | rfl | rfl | rfl | rfl | rfl | rfl | rfl | rfl | rfl | rfl <;> rfl) (by decide) (by decide) (by decide)) rfl rfl ?_
 exact Z
theorem tbQ_big {n k : Nat} (hn : 15 ≤ n) : tbQ n k = false := by
 unfold tbQ
 simp
 (repeat' split) <;> omega
theorem tk_Eh (n k : Nat) (hk : k < 8) : tkB [10, 17, 25, 33, 41, 48, 57, 66, 74, 80, 90, 97, 105, 113] n k = tbQ n k := by
 by_cases hn : n < 15
 ·exact (by decide : ∀ n < 15, ∀ k < 8, tkB [10, 17, 25, 33, 41, 48, 57, 66, 74, 80, 90, 97, 105, 113] n k = tbQ n k) n hn k hk
 ·rw [show tkB [10, 17, 25, 33, 41, 48, 57, 66, 74, 80, 90, 97, 105, 113] n k = false by unfold tkB; simp; omega, tbQ_big (by omega)]
end
section
set_option maxHeartbeats 8000000 in
theorem rMayEh_calls (x : Eh) (xa : D) (d : Int) (hbig : x.sz < big) (hx : x.R xa) (hd1 : -9223372036854775808 ≤ d) (hd2 : d < 9223372036854775808) : k'0 (cx B) 206 [.d xa, .d (.int .i64 d)] [] (.d (.bool (x.may d))) [] := by
 obtain ⟨z_attrs, l_attrs, z_pos, z_neg, z_exs, l_exs, rfl, r_attrs, r_exs⟩ := hx
 unfold Eh.sz at hbig
 unfold big at hbig
 have c_u := k'c B [10, 17, 25, 33, 41, 48, 57, 66, 74, 80, 90, 97, 105, 113] (by decide) (by decide) x.u d (by unfold big; omega) (by omega) hd2
 rw [k'47 tk_Eh] at c_u
 have c_t := tabEh_calls B
 have q_attrs : 0 ≤ d → k'0 (cx B) 148 [.d (.sl z_attrs l_attrs), .d (.int .i64 (d - 1))] [] (.d (.bool (x.attrs.all fun k => k.may (d - 1)))) [] := fun h => k'15 B x.attrs z_attrs l_attrs (d - 1) (by unfold big; omega) r_attrs (by omega) (by omega)
 have q_exs : 0 ≤ d → k'0 (cx B) 266 [.d (.sl z_exs l_exs), .d (.int .i64 (d - 1))] [] (.d (.bool (x.exs.all fun k => k.may (d - 1)))) [] := fun h => k'3t B z_exs (d - 1) (by unfold big; omega) (by omega) (by omega) r_exs
 have c_opts := opts_calls B x.sumH x.minH x.maxH x.sum x.min x.max
 have c_pos := rbare_calls B z_pos x.pos
 have q_pos : 0 ≤ d → k'0 (cx B) 270 [.d (bkZ z_pos x.pos.off x.pos.cs x.pos.u), .d (.int .i64 (d - 1))] [] (.d (.bool (x.pos.may (d - 1)))) [] := fun h => rMay_calls B z_pos x.pos.off x.pos.cs x.pos.u (d - 1) (by unfold Bk.sz at hbig; unfold big; omega) (by omega) (by omega)
 have c_neg := rbare_calls B z_neg x.neg
 have q_neg : 0 ≤ d → k'0 (cx B) 270 [.d (bkZ z_neg x.neg.off x.neg.cs x.neg.u), .d (.int .i64 (d - 1))] [] (.d (.bool (x.neg.may (d - 1)))) [] := fun h => rMay_calls B z_neg x.neg.off x.neg.cs x.neg.u (d - 1) (by unfold Bk.sz at hbig; unfold big; omega) (by omega) (by omega)
 have hR : x.may d = (!decide (d < 0) && ((k'l x.sumH x.sum && k'l x.minH x.min && k'l x.maxH x.max) && (maySd x.posH x.pos (d - 1) && (maySd x.negH x.neg (d - 1) && ((x.exs.all fun k => k.may (d - 1)) && ((x.attrs.all fun k => k.may (d - 1)) && k'1a tbQ x.u d)))))) := by
  unfold Eh.may
  rw [Bool.eq_iff_iff]
  simp only [Bool.and_eq_true, ge_iff_le, decide_eq_true_eq, Bool.not_eq_true', decide_eq_false_iff_not, Int.not_lt]
  constructor <;> (intro h; simp only [h, and_self, true_and, and_true])
 rw [hR]
 clear hR
 refine l_bw Tryz.func206 0 [] ?_
 cases hd : decide (d < 0)
 rotate_left
 ·refine xw ?_
  exact Z
 have hd0 : 0 ≤ d := by have := of_decide_eq_false hd; omega
 replace q_attrs := q_attrs hd0
 replace q_pos := q_pos hd0
 replace q_neg := q_neg hd0
 replace q_exs := q_exs hd0
 rw [decide_eq_true hd0, Bool.true_and] at c_u
 refine xw ?_
 refine Y ?_
 refine k'a [] (c_opts) rfl rfl rfl rfl rfl ?_
 refine xw ?_
 refine Y ?_
 cases h_opts : (k'l x.sumH x.sum && k'l x.minH x.min && k'l x.maxH x.max)
 ·refine xw ?_
  exact Z
 refine xw ?_
 refine Y ?_
 cases h_posH : x.posH
 rotate_left
 ·refine xw ?_
  refine Y ?_
  rw [k'5 1 (by omega) (by omega) (by omega) hd2]
  rw [show maySd true x.pos (d - 1) = x.pos.may (d - 1) from rfl]
  refine k'a [] (q_pos) rfl rfl rfl rfl rfl ?_
  refine xw ?_
  refine Y ?_
  cases h_pos : x.pos.may (d - 1)
  ·refine xw ?_
   exact Z
  refine xw ?_
  refine Y ?_
  cases h_negH : x.negH
  rotate_left
  ·refine xw ?_
   refine Y ?_
   rw [k'5 1 (by omega) (by omega) (by omega) hd2]
   rw [show maySd true x.neg (d - 1) = x.neg.may (d - 1) from rfl]
   refine k'a [] (q_neg) rfl rfl rfl rfl rfl ?_
   refine xw ?_
   refine Y ?_
   cases h_neg : x.neg.may (d - 1)
   ·refine xw ?_
    exact Z
   refine xw ?_
   refine Y ?_
   refine xw ?_
   rw [k'5 1 (by omega) (by omega) (by omega) hd2]
   refine k'3 [] (q_exs) rfl rfl rfl ?_
   refine xw ?_
   refine Y ?_
   cases h_exs : (x.exs.all fun k => k.may (d - 1))
   ·refine xw ?_
    exact Z
   refine xw ?_
   refine Y ?_
   rw [k'5 1 (by omega) (by omega) (by omega) hd2]
   refine k'3 [] (q_attrs) rfl rfl rfl ?_
   refine xw ?_
   refine Y ?_
   cases h_attrs : (x.attrs.all fun k => k.may (d - 1))
   ·refine xw ?_
    exact Z
   refine xw ?_
   refine Y ?_
   refine k'3 [] (c_t) rfl rfl rfl ?_
   refine xw ?_
   refine Y ?_
   refine k'3 [] (c_u) rfl rfl rfl ?_
   refine xw ?_
   exact Z
  refine xw ?_
  refine Y ?_
  rw [show maySd false x.neg (d - 1) = x.neg.isNo from rfl]
  refine k'a [] (c_neg) rfl rfl rfl rfl rfl ?_
  refine xw ?_
  refine Y ?_
  cases h_neg : x.neg.isNo
  ·refine xw ?_
   exact Z
  refine xw ?_
  refine Y ?_
  refine xw ?_
  rw [k'5 1 (by omega) (by omega) (by omega) hd2]
  refine k'3 [] (q_exs) rfl rfl rfl ?_
  refine xw ?_
  refine Y ?_
  cases h_exs : (x.exs.all fun k => k.may (d - 1))
  ·refine xw ?_
   exact Z
  refine xw ?_
  refine Y ?_
  rw [k'5 1 (by omega) (by omega) (by omega) hd2]
  refine k'3 [] (q_attrs) rfl rfl rfl ?_
  refine xw ?_
  refine Y ?_
  cases h_attrs : (x.attrs.all fun k => k.may (d - 1))
  ·refine xw ?_
   exact Z
  refine xw ?_
  refine Y ?_
  refine k'3 [] (c_t) rfl rfl rfl ?_
  refine xw ?_
  refine Y ?_
  refine k'3 [] (c_u) rfl rfl rfl ?_
  refine xw ?_
  exact Z
 refine xw ?_
 refine Y ?_
 rw [show maySd false x.pos (d - 1) = x.pos.isNo from rfl]
 refine k'a [] (c_pos) rfl rfl rfl rfl rfl ?_
 refine xw ?_
 refine Y ?_
 cases h_pos : x.pos.isNo
 ·refine xw ?_
  exact Z
 refine xw ?_
 refine Y ?_
 cases h_negH : x.negH
 rotate_left
 ·refine xw ?_
  refine Y ?_
  rw [k'5 1 (by omega) (by omega) (by omega) hd2]
  rw [show maySd true x.neg (d - 1) = x.neg.may (d - 1) from rfl]
  refine k'a [] (q_neg) rfl rfl rfl rfl rfl ?_
  refine xw ?_
  refine Y ?_
  cases h_neg : x.neg.may (d - 1)
  ·refine xw ?_
   exact Z
  refine xw ?_
  refine Y ?_
  refine xw ?_
  rw [k'5 1 (by omega) (by omega) (by omega) hd2]
  refine k'3 [] (q_exs) rfl rfl rfl ?_
  refine xw ?_
  refine Y ?_
  cases h_exs : (x.exs.all fun k => k.may (d - 1))
  ·refine xw ?_
   exact Z
  refine xw ?_
  refine Y ?_
  rw [k'5 1 (by omega) (by omega) (by omega) hd2]
  refine k'3 [] (q_attrs) rfl rfl rfl ?_
  refine xw ?_
  refine Y ?_
  cases h_attrs : (x.attrs.all fun k => k.may (d - 1))
  ·refine xw ?_
   exact Z
  refine xw ?_
  refine Y ?_
  refine k'3 [] (c_t) rfl rfl rfl ?_
  refine xw ?_
  refine Y ?_
  refine k'3 [] (c_u) rfl rfl rfl ?_
  refine xw ?_
  exact Z
 refine xw ?_
 refine Y ?_
 rw [show maySd false x.neg (d - 1) = x.neg.isNo from rfl]
 refine k'a [] (c_neg) rfl rfl rfl rfl rfl ?_
 refine xw ?_
 refine Y ?_
 cases h_neg : x.neg.isNo
 ·refine xw ?_
  exact Z
 refine xw ?_
 refine Y ?_
 refine xw ?_
 rw [k'5 1 (by omega) (by omega) (by omega) hd2]
 refine k'3 [] (q_exs) rfl rfl rfl ?_
 refine xw ?_
 refine Y ?_
 cases h_exs : (x.exs.all fun k => k.may (d - 1))
 ·refine xw ?_
  exact Z
 refine xw ?_
 refine Y ?_
 rw [k'5 1 (by omega) (by omega) (by omega) hd2]
 refine k'3 [] (q_attrs) rfl rfl rfl ?_
 refine xw ?_
 refine Y ?_
 cases h_attrs : (x.attrs.all fun k => k.may (d - 1))
 ·refine xw ?_
  exact Z
 refine xw ?_
 refine Y ?_
 refine k'3 [] (c_t) rfl rfl rfl ?_
 refine xw ?_
 refine Y ?_
 refine k'3 [] (c_u) rfl rfl rfl ?_
 refine xw ?_
 exact Z
set_option maxHeartbeats 8000000 in
theorem rEh_calls (x : Eh) (xa : D) (d : Int) (hbig : x.sz < big) (hwf : x.wf) (hm : x.may d = true) (hx : x.R xa) : k'0 (cx B) 324 [.d xa] [] (sT x.mar) [] := by
 have hlen := Eh.mar_len x
 obtain ⟨z_attrs, l_attrs, z_pos, z_neg, z_exs, l_exs, rfl, r_attrs, r_exs⟩ := hx
 unfold Eh.may at hm
 simp only [Bool.and_eq_true, decide_eq_true_eq] at hm
 obtain ⟨⟨⟨⟨⟨⟨hd, ⟨⟨m_sum, m_min⟩, m_max⟩⟩, m_pos⟩, m_neg⟩, m_exs⟩, m_attrs⟩, hu⟩ := hm
 obtain ⟨w_attrs, w_start, w_time, w_count, w_sum, w_min, w_max, w_scale, w_zero, w_pos, w_neg, w_exs, w_flags, w_thr⟩ := hwf
 have hlen : x.mar.length < big := by omega
 unfold Eh.sz at hbig
 unfold Eh.mar Eh.hb at hlen ⊢
 have c0 : k'0 (cx B) 150 [iT 1, .d (.sl z_attrs l_attrs)] [] (sT (psV 1 (Kv.mars x.attrs))) [] := k'1q B 1 (by omega) (by omega) x.attrs z_attrs l_attrs (d - 1) (by omega) w_attrs m_attrs r_attrs
 have c1 : k'0 (cx B) 399 [iT 2, uT x.start] [] (sT (fxV 2 x.start)) [] := k'e B 2 x.start (by omega) (by omega) w_start
 have c2 : k'0 (cx B) 399 [iT 3, uT x.time] [] (sT (fxV 3 x.time)) [] := k'e B 3 x.time (by omega) (by omega) w_time
 have c3 : k'0 (cx B) 399 [iT 4, uT x.count] [] (sT (fxV 4 x.count)) [] := k'e B 4 x.count (by omega) (by omega) w_count
 have c4 : k'0 (cx B) 402 [iT 5, .d (.agg [.bool x.sumH, .int .u64 x.sum])] [] (sT (opV 5 x.sumH x.sum)) [] := k'29 B 5 x.sumH x.sum (by omega) (by omega) w_sum
 have c5 : k'0 (cx B) 42 [iT 6, uT (k'2o x.scale)] [] (sT (vrV 6 (k'2o x.scale))) [] := k'18 B 6 (k'2o x.scale) (by omega) (by omega) (zig32_lt _ w_scale.1 w_scale.2)
 have c6 : k'0 (cx B) 399 [iT 7, uT x.zero] [] (sT (fxV 7 x.zero)) [] := k'e B 7 x.zero (by omega) (by omega) w_zero
 have c7 : k'0 (cx B) 405 [iT 8, .d (.bool x.posH), .d (bkZ z_pos x.pos.off x.pos.cs x.pos.u)] [] (sT (sdV 8 x.posH x.pos)) [] := rside_calls B z_pos 8 x.posH x.pos (by omega) (by omega) (by omega) w_pos
 have c8 : k'0 (cx B) 405 [iT 9, .d (.bool x.negH), .d (bkZ z_neg x.neg.off x.neg.cs x.neg.u)] [] (sT (sdV 9 x.negH x.neg)) [] := rside_calls B z_neg 9 x.negH x.neg (by omega) (by omega) (by omega) w_neg
 have c9 : k'0 (cx B) 42 [iT 10, uT x.flags] [] (sT (vrV 10 x.flags)) [] := k'18 B 10 x.flags (by omega) (by omega) (by omega)
 have c10 : k'0 (cx B) 401 [iT 11, .d (.sl z_exs l_exs)] [] (sT (psV 11 (x.exs.map Em.mar))) [] := k'3q B 11 (by omega) (by omega) z_exs (d - 1) (by omega) w_exs m_exs r_exs
 have c11 : k'0 (cx B) 402 [iT 12, .d (.agg [.bool x.minH, .int .u64 x.min])] [] (sT (opV 12 x.minH x.min)) [] := k'29 B 12 x.minH x.min (by omega) (by omega) w_min
 have c12 : k'0 (cx B) 402 [iT 13, .d (.agg [.bool x.maxH, .int .u64 x.max])] [] (sT (opV 13 x.maxH x.max)) [] := k'29 B 13 x.maxH x.max (by omega) (by omega) w_max
 have c13 : k'0 (cx B) 399 [iT 14, uT x.thr] [] (sT (fxV 14 x.thr)) [] := k'e B 14 x.thr (by omega) (by omega) w_thr
 generalize psV 1 (Kv.mars x.attrs) = o0 at *
 generalize fxV 2 x.start = o1 at *
 generalize fxV 3 x.time = o2 at *
 generalize fxV 4 x.count = o3 at *
 generalize opV 5 x.sumH x.sum = o4 at *
 generalize vrV 6 (k'2o x.scale) = o5 at *
 generalize fxV 7 x.zero = o6 at *
 generalize sdV 8 x.posH x.pos = o7 at *
 generalize sdV 9 x.negH x.neg = o8 at *
 generalize vrV 10 x.flags = o9 at *
 generalize psV 11 (x.exs.map Em.mar) = o10 at *
 generalize opV 12 x.minH x.min = o11 at *
 generalize opV 13 x.maxH x.max = o12 at *
 generalize fxV 14 x.thr = o13 at *
 unfold big at hlen
 simp only [List.length_append] at hlen
 refine l_bw Tryz.func324 0 [] ?_
 refine x_cw [] (c0) rfl rfl rfl ?_
 refine x_cw [] (c1) rfl rfl rfl ?_
 refine k'12 (.addStr rfl rfl rfl (by (try simp only [List.length_append]); omega)) rfl rfl rfl ?_
 refine Y ?_
 refine x_cw [] (c2) rfl rfl rfl ?_
 refine k'12 (.addStr rfl rfl rfl (by (try simp only [List.length_append]); omega)) rfl rfl rfl ?_
 refine Y ?_
 refine x_cw [] (c3) rfl rfl rfl ?_
 refine k'12 (.addStr rfl rfl rfl (by (try simp only [List.length_append]); omega)) rfl rfl rfl ?_
 refine Y ?_
 refine x_cw [] (c4) rfl rfl rfl ?_
 refine k'12 (.addStr rfl rfl rfl (by (try simp only [List.length_append]); omega)) rfl rfl rfl ?_
 refine Y ?_
 refine x_cw [] (rZig32_calls B x.scale w_scale.1 w_scale.2) rfl rfl rfl ?_
 refine x_cw [] (c5) rfl rfl rfl ?_
 refine k'12 (.addStr rfl rfl rfl (by (try simp only [List.length_append]); omega)) rfl rfl rfl ?_
 refine Y ?_
 refine x_cw [] (c6) rfl rfl rfl ?_
 refine k'12 (.addStr rfl rfl rfl (by (try simp only [List.length_append]); omega)) rfl rfl rfl ?_
 refine Y ?_
 refine x_cw [] (c7) rfl rfl rfl ?_
 refine k'12 (.addStr rfl rfl rfl (by (try simp only [List.length_append]); omega)) rfl rfl rfl ?_
 refine Y ?_
 refine x_cw [] (c8) rfl rfl rfl ?_
 refine k'12 (.addStr rfl rfl rfl (by (try simp only [List.length_append]); omega)) rfl rfl rfl ?_
 refine Y ?_
 rw [show IntKind.u64.wrap (x.flags : Int) = (x.flags : Int) by rw [IntKind.wrap_u64]; omega]
 refine x_cw [] (c9) rfl rfl rfl ?_
 refine k'12 (.addStr rfl rfl rfl (by (try simp only [List.length_append]); omega)) rfl rfl rfl ?_
 refine Y ?_
 refine x_cw [] (c10) rfl rfl rfl ?_
 refine k'12 (.addStr rfl rfl rfl (by (try simp only [List.length_append]); omega)) rfl rfl rfl ?_
 refine Y ?_
 refine x_cw [] (c11) rfl rfl rfl ?_
 refine k'12 (.addStr rfl rfl rfl (by (try simp only [List.length_append]); omega)) rfl rfl rfl ?_
 refine Y ?_
 refine x_cw [] (c12) rfl rfl rfl ?_
 refine k'12 (.addStr rfl rfl rfl (by (try simp only [List.length_append]); omega)) rfl rfl rfl ?_
 refine Y ?_
 refine x_cw [] (c13) rfl rfl rfl ?_
 refine k'12 (.addStr rfl rfl rfl (by (try simp only [List.length_append]); omega)) rfl rfl rfl ?_
 refine Y ?_
 refine k'12 (.addStr rfl rfl rfl (by (try simp only [List.length_append]); omega)) rfl rfl rfl ?_
 exact Z
end
