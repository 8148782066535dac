/- Hist: the reference tells if they may be, and their bytes. -/
import Derived.Test.YthogjpjcidfoaaaGreatDoorEM
import Derived.Test.YthogjpjcidfoaaaGreatDoorRO
import Derived.Test.YthogjpjcidfoaaaGreatDoorHR
set_option linter.unusedSimpArgs false
set_option linter.unusedVariables false
set_option maxRecDepth 100000
namespace Go.Proofs.YthogjpjcidfoaaaGreatDoor
open Go Go.Abs
variable (B : Fr)
set_option maxHeartbeats 8000000 in
theorem rMayHi_calls (x : Hi) (xa : D) (d : Int) (hbig : x.sz < big) (hx : x.R xa) (hd1 : -9223372036854775808 ≤ d) (hd2 : d < 9223372036854775808) : CallsA (cx B) 26 [.d xa, .d (.int .i64 d)] [] (.d (.bool (x.may d))) [] := by
  obtain ⟨z_attrs, l_attrs, z_counts, z_bounds, z_exs, l_exs, rfl, r_attrs, r_exs⟩ := hx
  unfold Hi.sz at hbig
  unfold big at hbig
  have c_u := Unknown_calls B [17, 25, 33, 41, 49, 50, 57, 58, 66, 74, 80, 89, 97] (by decide) (by decide) x.u d (by unfold big; omega) (by omega) hd2
  rw [unk_eq tk_Hi] at c_u
  have c_t := tabHi_calls B
  have q_attrs : 0 ≤ d → CallsA (cx B) 37 [.d (.sl z_attrs l_attrs), .d (.int .i64 (d - 1))] [] (.d (.bool (x.attrs.all fun k => k.may (d - 1)))) [] := fun h => rMayKeys_calls B x.attrs z_attrs l_attrs (d - 1) (by unfold big; omega) r_attrs (by omega) (by omega)
  have q_exs : 0 ≤ d → CallsA (cx B) 38 [.d (.sl z_exs l_exs), .d (.int .i64 (d - 1))] [] (.d (.bool (x.exs.all fun k => k.may (d - 1)))) [] := fun h => rMayEms_calls B z_exs (d - 1) (by unfold big; omega) (by omega) (by omega) r_exs
  have c_opts := opts_calls B x.sumH x.minH x.maxH x.sum x.min x.max
  have hR : x.may d = (decide (d ≥ 0) && ((mayOpt x.sumH x.sum && mayOpt x.minH x.min && mayOpt x.maxH x.max) && ((x.exs.all fun k => k.may (d - 1)) && ((x.attrs.all fun k => k.may (d - 1)) && restB tbH x.u d)))) := by
    unfold Hi.may
    rw [Bool.eq_iff_iff]
    simp only [Bool.and_eq_true, ge_iff_le, decide_eq_true_eq, Bool.not_eq_true', decide_eq_false_iff_not, Int.not_lt]
    constructor <;> (intro h; simp only [h, and_self, true_and, and_true])
  rw [hR]
  clear hR
  refine l_body (X := cx B) (fn := Tryz.f26) Tryz.func26 rfl rfl rfl rfl rfl 0 [] rfl rfl ?_
  refine walk ?_
  (repeat ((with_reducible refine is_runX ?_); first | refine x_skip rfl rfl ?_ | refine x_pure rfl rfl rfl ?_ | refine x_load rfl rfl rfl rfl rfl rfl ?_))
  cases hd : decide (d ≥ 0) with
  | false =>
    (repeat ((with_reducible refine is_runX ?_); first | refine x_skip rfl rfl ?_ | refine x_pure rfl rfl rfl ?_ | refine x_load rfl rfl rfl rfl rfl rfl ?_))
    refine walk ?_
    exact l_end trivial (by decide) rfl rfl rfl rfl rfl
  | true =>
    have hd0 : 0 ≤ d := of_decide_eq_true hd
    replace q_attrs := q_attrs hd0
    replace q_exs := q_exs hd0
    rw [decide_eq_true hd0, Bool.true_and] at c_u
    (repeat ((with_reducible refine is_runX ?_); first | refine x_skip rfl rfl ?_ | refine x_pure rfl rfl rfl ?_ | refine x_load rfl rfl rfl rfl rfl rfl ?_))
    refine walk ?_
    refine x_call [] (c_opts) rfl rfl rfl rfl rfl rfl (by decide) rfl rfl rfl rfl rfl rfl ?_
    (repeat ((with_reducible refine is_runX ?_); first | refine x_skip rfl rfl ?_ | refine x_pure rfl rfl rfl ?_ | refine x_load rfl rfl rfl rfl rfl rfl ?_))
    refine walk ?_
    cases h_opts : (mayOpt x.sumH x.sum && mayOpt x.minH x.min && mayOpt x.maxH x.max) with
    | false =>
      (repeat ((with_reducible refine is_runX ?_); first | refine x_skip rfl rfl ?_ | refine x_pure rfl rfl rfl ?_ | refine x_load rfl rfl rfl rfl rfl rfl ?_))
      refine walk ?_
      exact l_end trivial (by decide) rfl rfl rfl rfl rfl
    | true =>
      (repeat ((with_reducible refine is_runX ?_); first | refine x_skip rfl rfl ?_ | refine x_pure rfl rfl rfl ?_ | refine x_load rfl rfl rfl rfl rfl rfl ?_))
      refine walk ?_
      rw [wrap_sub 1 (by omega) (by omega) (by omega) hd2]
      refine x_call [] (q_exs) rfl rfl rfl rfl rfl rfl (by decide) rfl rfl rfl rfl rfl rfl ?_
      (repeat ((with_reducible refine is_runX ?_); first | refine x_skip rfl rfl ?_ | refine x_pure rfl rfl rfl ?_ | refine x_load rfl rfl rfl rfl rfl rfl ?_))
      refine walk ?_
      cases h_exs : (x.exs.all fun k => k.may (d - 1)) with
      | false =>
        (repeat ((with_reducible refine is_runX ?_); first | refine x_skip rfl rfl ?_ | refine x_pure rfl rfl rfl ?_ | refine x_load rfl rfl rfl rfl rfl rfl ?_))
        refine walk ?_
        exact l_end trivial (by decide) rfl rfl rfl rfl rfl
      | true =>
        (repeat ((with_reducible refine is_runX ?_); first | refine x_skip rfl rfl ?_ | refine x_pure rfl rfl rfl ?_ | refine x_load rfl rfl rfl rfl rfl rfl ?_))
        refine walk ?_
        rw [wrap_sub 1 (by omega) (by omega) (by omega) hd2]
        refine x_call [] (q_attrs) rfl rfl rfl rfl rfl rfl (by decide) rfl rfl rfl rfl rfl rfl ?_
        (repeat ((with_reducible refine is_runX ?_); first | refine x_skip rfl rfl ?_ | refine x_pure rfl rfl rfl ?_ | refine x_load rfl rfl rfl rfl rfl rfl ?_))
        refine walk ?_
        cases h_attrs : (x.attrs.all fun k => k.may (d - 1)) with
        | false =>
          (repeat ((with_reducible refine is_runX ?_); first | refine x_skip rfl rfl ?_ | refine x_pure rfl rfl rfl ?_ | refine x_load rfl rfl rfl rfl rfl rfl ?_))
          refine walk ?_
          exact l_end trivial (by decide) rfl rfl rfl rfl rfl
        | true =>
          (repeat ((with_reducible refine is_runX ?_); first | refine x_skip rfl rfl ?_ | refine x_pure rfl rfl rfl ?_ | refine x_load rfl rfl rfl rfl rfl rfl ?_))
          refine walk ?_
          refine x_call [] (c_t) rfl rfl rfl rfl rfl rfl (by decide) rfl rfl rfl rfl rfl rfl ?_
          (repeat ((with_reducible refine is_runX ?_); first | refine x_skip rfl rfl ?_ | refine x_pure rfl rfl rfl ?_ | refine x_load rfl rfl rfl rfl rfl rfl ?_))
          refine walk ?_
          refine x_call [] (c_u) rfl rfl rfl rfl rfl rfl (by decide) rfl rfl rfl rfl rfl rfl ?_
          (repeat ((with_reducible refine is_runX ?_); first | refine x_skip rfl rfl ?_ | refine x_pure rfl rfl rfl ?_ | refine x_load rfl rfl rfl rfl rfl rfl ?_))
          refine walk ?_
          exact l_end trivial (by decide) rfl rfl rfl rfl rfl
set_option maxHeartbeats 8000000 in
theorem rHi_calls (x : Hi) (xa : D) (d : Int) (hbig : x.sz < big) (hwf : x.wf) (hm : x.may d = true) (hx : x.R xa) : CallsA (cx B) 28 [.d xa] [] (sT x.mar) [] := by
  have hlen := Hi.mar_len x
  obtain ⟨z_attrs, l_attrs, z_counts, z_bounds, z_exs, l_exs, rfl, r_attrs, r_exs⟩ := hx
  unfold Hi.may at hm
  simp only [Bool.and_eq_true, decide_eq_true_eq] at hm
  obtain ⟨⟨⟨⟨hd, ⟨⟨m_sum, m_min⟩, m_max⟩⟩, m_exs⟩, m_attrs⟩, hu⟩ := hm
  obtain ⟨w_attrs, w_start, w_time, w_count, w_sum, w_min, w_max, w_counts, w_bounds, w_exs, w_flags⟩ := hwf
  have hlen : x.mar.length < big := by omega
  unfold Hi.sz at hbig
  unfold Hi.mar Hi.hb at hlen ⊢
  have c0 : CallsA (cx B) 56 [iT 2, uT x.start] [] (sT (fxV 2 x.start)) [] := PutNum_calls B 2 x.start (by omega) (by omega) w_start
  have c1 : CallsA (cx B) 56 [iT 3, uT x.time] [] (sT (fxV 3 x.time)) [] := PutNum_calls B 3 x.time (by omega) (by omega) w_time
  have c2 : CallsA (cx B) 56 [iT 4, uT x.count] [] (sT (fxV 4 x.count)) [] := PutNum_calls B 4 x.count (by omega) (by omega) w_count
  have c3 : CallsA (cx B) 86 [iT 5, .d (.agg [.bool x.sumH, .int .u64 x.sum])] [] (sT (opV 5 x.sumH x.sum)) [] := PutOpt_calls B 5 x.sumH x.sum (by omega) (by omega) w_sum
  have c4 : CallsA (cx B) 87 [iT 6, .d (.sl z_counts (x.counts.map uD))] [] (sT (pwV 6 x.counts)) [] := PutFixeds_calls B z_counts 6 x.counts (by omega) (by omega) w_counts (by unfold big at hbig ⊢; omega)
  have c5 : CallsA (cx B) 87 [iT 7, .d (.sl z_bounds (x.bounds.map uD))] [] (sT (pwV 7 x.bounds)) [] := PutFixeds_calls B z_bounds 7 x.bounds (by omega) (by omega) w_bounds (by unfold big at hbig ⊢; omega)
  have c6 : CallsA (cx B) 59 [iT 8, .d (.sl z_exs l_exs)] [] (sT (psV 8 (x.exs.map Em.mar))) [] := rPutEms_calls B 8 (by omega) (by omega) z_exs (d - 1) (by omega) w_exs m_exs r_exs
  have c7 : CallsA (cx B) 60 [iT 9, .d (.sl z_attrs l_attrs)] [] (sT (psV 9 (Kv.mars x.attrs))) [] := rPutKeys_calls B 9 (by omega) (by omega) x.attrs z_attrs l_attrs (d - 1) (by omega) w_attrs m_attrs r_attrs
  have c8 : CallsA (cx B) 61 [iT 10, uT x.flags] [] (sT (vrV 10 x.flags)) [] := PutVar_calls B 10 x.flags (by omega) (by omega) (by omega)
  have c9 : CallsA (cx B) 86 [iT 11, .d (.agg [.bool x.minH, .int .u64 x.min])] [] (sT (opV 11 x.minH x.min)) [] := PutOpt_calls B 11 x.minH x.min (by omega) (by omega) w_min
  have c10 : CallsA (cx B) 86 [iT 12, .d (.agg [.bool x.maxH, .int .u64 x.max])] [] (sT (opV 12 x.maxH x.max)) [] := PutOpt_calls B 12 x.maxH x.max (by omega) (by omega) w_max
  generalize fxV 2 x.start = o0 at *
  generalize fxV 3 x.time = o1 at *
  generalize fxV 4 x.count = o2 at *
  generalize opV 5 x.sumH x.sum = o3 at *
  generalize pwV 6 x.counts = o4 at *
  generalize pwV 7 x.bounds = o5 at *
  generalize psV 8 (x.exs.map Em.mar) = o6 at *
  generalize psV 9 (Kv.mars x.attrs) = o7 at *
  generalize vrV 10 x.flags = o8 at *
  generalize opV 11 x.minH x.min = o9 at *
  generalize opV 12 x.maxH x.max = o10 at *
  unfold big at hlen
  simp only [List.length_append] at hlen
  refine l_body (X := cx B) (fn := Tryz.f28) Tryz.func28 rfl rfl rfl rfl rfl 0 [] rfl rfl ?_
  refine walk ?_
  refine x_call [] (c0) rfl rfl rfl rfl rfl rfl (by decide) rfl rfl rfl rfl rfl rfl ?_
  refine walk ?_
  refine x_call [] (c1) rfl rfl rfl rfl rfl rfl (by decide) rfl rfl rfl rfl rfl rfl ?_
  refine walk ?_
  refine x_mob (.addStr (a := o0) (b := o1) rfl rfl rfl (by (try simp only [List.length_append]); omega)) rfl rfl rfl ?_
  refine walk ?_
  refine x_call [] (c2) rfl rfl rfl rfl rfl rfl (by decide) rfl rfl rfl rfl rfl rfl ?_
  refine walk ?_
  refine x_mob (.addStr (a := o0 ++ o1) (b := o2) rfl rfl rfl (by (try simp only [List.length_append]); omega)) rfl rfl rfl ?_
  refine walk ?_
  refine x_call [] (c3) rfl rfl rfl rfl rfl rfl (by decide) rfl rfl rfl rfl rfl rfl ?_
  refine walk ?_
  refine x_mob (.addStr (a := o0 ++ o1 ++ o2) (b := o3) rfl rfl rfl (by (try simp only [List.length_append]); omega)) rfl rfl rfl ?_
  refine walk ?_
  refine x_call [] (c4) rfl rfl rfl rfl rfl rfl (by decide) rfl rfl rfl rfl rfl rfl ?_
  refine walk ?_
  refine x_mob (.addStr (a := o0 ++ o1 ++ o2 ++ o3) (b := o4) rfl rfl rfl (by (try simp only [List.length_append]); omega)) rfl rfl rfl ?_
  refine walk ?_
  refine x_call [] (c5) rfl rfl rfl rfl rfl rfl (by decide) rfl rfl rfl rfl rfl rfl ?_
  refine walk ?_
  refine x_mob (.addStr (a := o0 ++ o1 ++ o2 ++ o3 ++ o4) (b := o5) rfl rfl rfl (by (try simp only [List.length_append]); omega)) rfl rfl rfl ?_
  refine walk ?_
  refine x_call [] (c6) rfl rfl rfl rfl rfl rfl (by decide) rfl rfl rfl rfl rfl rfl ?_
  refine walk ?_
  refine x_mob (.addStr (a := o0 ++ o1 ++ o2 ++ o3 ++ o4 ++ o5) (b := o6) rfl rfl rfl (by (try simp only [List.length_append]); omega)) rfl rfl rfl ?_
  refine walk ?_
  refine x_call [] (c7) rfl rfl rfl rfl rfl rfl (by decide) rfl rfl rfl rfl rfl rfl ?_
  refine walk ?_
  refine x_mob (.addStr (a := o0 ++ o1 ++ o2 ++ o3 ++ o4 ++ o5 ++ o6) (b := o7) rfl rfl rfl (by (try simp only [List.length_append]); omega)) rfl rfl rfl ?_
  refine walk ?_
  rw [show IntKind.u64.wrap (x.flags : Int) = (x.flags : Int) by rw [IntKind.wrap_u64]; omega]
  refine x_call [] (c8) rfl rfl rfl rfl rfl rfl (by decide) rfl rfl rfl rfl rfl rfl ?_
  refine walk ?_
  refine x_mob (.addStr (a := o0 ++ o1 ++ o2 ++ o3 ++ o4 ++ o5 ++ o6 ++ o7) (b := o8) rfl rfl rfl (by (try simp only [List.length_append]); omega)) rfl rfl rfl ?_
  refine walk ?_
  refine x_call [] (c9) rfl rfl rfl rfl rfl rfl (by decide) rfl rfl rfl rfl rfl rfl ?_
  refine walk ?_
  refine x_mob (.addStr (a := o0 ++ o1 ++ o2 ++ o3 ++ o4 ++ o5 ++ o6 ++ o7 ++ o8) (b := o9) rfl rfl rfl (by (try simp only [List.length_append]); omega)) rfl rfl rfl ?_
  refine walk ?_
  refine x_call [] (c10) rfl rfl rfl rfl rfl rfl (by decide) rfl rfl rfl rfl rfl rfl ?_
  refine walk ?_
  refine x_mob (.addStr (a := o0 ++ o1 ++ o2 ++ o3 ++ o4 ++ o5 ++ o6 ++ o7 ++ o8 ++ o9) (b := o10) rfl rfl rfl (by (try simp only [List.length_append]); omega)) rfl rfl rfl ?_
  refine walk ?_
  refine x_mob (.addStr (a := o0 ++ o1 ++ o2 ++ o3 ++ o4 ++ o5 ++ o6 ++ o7 ++ o8 ++ o9 ++ o10) (b := x.u) rfl rfl rfl (by (try simp only [List.length_append]); omega)) rfl rfl rfl ?_
  refine walk ?_
  exact l_end trivial (by decide) rfl rfl rfl rfl rfl
end Go.Proofs.YthogjpjcidfoaaaGreatDoor
