/- Number: the reference tells if they may be, and their bytes. -/
import Derived.Test.YthogjpjcidfoaaaGreatDoorEM
import Derived.Test.YthogjpjcidfoaaaGreatDoorNR
set_option linter.unusedSimpArgs false
set_option linter.unusedVariables false
set_option maxRecDepth 100000
namespace Go.Proofs.YthogjpjcidfoaaaGreatDoor
open Go Go.Abs
variable (B : Fr)
set_option maxHeartbeats 8000000 in
theorem rMayNb_calls (x : Nb) (xa : D) (d : Int) (hbig : x.sz < big) (hx : x.R xa) (hd1 : -9223372036854775808 ≤ d) (hd2 : d < 9223372036854775808) : CallsA (cx B) 12 [.d xa, .d (.int .i64 d)] [] (.d (.bool (x.may d))) [] := by
  obtain ⟨z_attrs, l_attrs, z_exs, l_exs, rfl, r_attrs, r_exs⟩ := hx
  unfold Nb.sz at hbig
  unfold big at hbig
  have c_u := Unknown_calls B [17, 25, 33, 42, 49, 58, 64] (by decide) (by decide) x.u d (by unfold big; omega) (by omega) hd2
  rw [unk_eq tk_Nb] at c_u
  have c_t := tabNb_calls B
  have q_attrs : 0 ≤ d → CallsA (cx B) 37 [.d (.sl z_attrs l_attrs), .d (.int .i64 (d - 1))] [] (.d (.bool (x.attrs.all fun k => k.may (d - 1)))) [] := fun h => rMayKeys_calls B x.attrs z_attrs l_attrs (d - 1) (by unfold big; omega) r_attrs (by omega) (by omega)
  have q_exs : 0 ≤ d → CallsA (cx B) 38 [.d (.sl z_exs l_exs), .d (.int .i64 (d - 1))] [] (.d (.bool (x.exs.all fun k => k.may (d - 1)))) [] := fun h => rMayEms_calls B z_exs (d - 1) (by unfold big; omega) (by omega) (by omega) r_exs
  have hR : x.may d = (decide (d ≥ 0) && (decide (x.kind ≥ 0) && (decide (x.kind ≤ 2) && ((decide (x.kind > 0) || ((x.n : Int) == 0)) && ((x.attrs.all fun k => k.may (d - 1)) && ((x.exs.all fun k => k.may (d - 1)) && restB tbN x.u d)))))) := by
    unfold Nb.may mayNum
    rw [show ((x.n : Int) == 0) = (x.n == 0) from ibeq x.n 0]
    rw [Bool.eq_iff_iff]
    simp only [Bool.and_eq_true, ge_iff_le, decide_eq_true_eq, Bool.not_eq_true', decide_eq_false_iff_not, Int.not_lt]
    constructor <;> (intro h; simp only [h, and_self, true_and, and_true])
  rw [hR]
  clear hR
  refine l_body (X := cx B) (fn := Tryz.f12) Tryz.func12 rfl rfl rfl rfl rfl 0 [] rfl rfl ?_
  refine walk ?_
  (repeat ((with_reducible refine is_runX ?_); first | refine x_skip rfl rfl ?_ | refine x_pure rfl rfl rfl ?_ | refine x_load rfl rfl rfl rfl rfl rfl ?_))
  cases hd : decide (d ≥ 0) with
  | false =>
    (repeat ((with_reducible refine is_runX ?_); first | refine x_skip rfl rfl ?_ | refine x_pure rfl rfl rfl ?_ | refine x_load rfl rfl rfl rfl rfl rfl ?_))
    refine walk ?_
    exact l_end trivial (by decide) rfl rfl rfl rfl rfl
  | true =>
    have hd0 : 0 ≤ d := of_decide_eq_true hd
    replace q_attrs := q_attrs hd0
    replace q_exs := q_exs hd0
    rw [decide_eq_true hd0, Bool.true_and] at c_u
    (repeat ((with_reducible refine is_runX ?_); first | refine x_skip rfl rfl ?_ | refine x_pure rfl rfl rfl ?_ | refine x_load rfl rfl rfl rfl rfl rfl ?_))
    refine walk ?_
    cases h_k1 : decide (x.kind ≥ 0) with
    | false =>
      (repeat ((with_reducible refine is_runX ?_); first | refine x_skip rfl rfl ?_ | refine x_pure rfl rfl rfl ?_ | refine x_load rfl rfl rfl rfl rfl rfl ?_))
      refine walk ?_
      exact l_end trivial (by decide) rfl rfl rfl rfl rfl
    | true =>
      (repeat ((with_reducible refine is_runX ?_); first | refine x_skip rfl rfl ?_ | refine x_pure rfl rfl rfl ?_ | refine x_load rfl rfl rfl rfl rfl rfl ?_))
      refine walk ?_
      cases h_k2 : decide (x.kind ≤ 2) with
      | false =>
        (repeat ((with_reducible refine is_runX ?_); first | refine x_skip rfl rfl ?_ | refine x_pure rfl rfl rfl ?_ | refine x_load rfl rfl rfl rfl rfl rfl ?_))
        refine walk ?_
        exact l_end trivial (by decide) rfl rfl rfl rfl rfl
      | true =>
        (repeat ((with_reducible refine is_runX ?_); first | refine x_skip rfl rfl ?_ | refine x_pure rfl rfl rfl ?_ | refine x_load rfl rfl rfl rfl rfl rfl ?_))
        refine walk ?_
        cases h_k3 : decide (x.kind > 0) with
        | true =>
          (repeat ((with_reducible refine is_runX ?_); first | refine x_skip rfl rfl ?_ | refine x_pure rfl rfl rfl ?_ | refine x_load rfl rfl rfl rfl rfl rfl ?_))
          refine walk ?_
          rw [wrap_sub 1 (by omega) (by omega) (by omega) hd2]
          refine x_call [] (q_attrs) rfl rfl rfl rfl rfl rfl (by decide) rfl rfl rfl rfl rfl rfl ?_
          (repeat ((with_reducible refine is_runX ?_); first | refine x_skip rfl rfl ?_ | refine x_pure rfl rfl rfl ?_ | refine x_load rfl rfl rfl rfl rfl rfl ?_))
          refine walk ?_
          cases h_attrs : (x.attrs.all fun k => k.may (d - 1)) with
          | false =>
            (repeat ((with_reducible refine is_runX ?_); first | refine x_skip rfl rfl ?_ | refine x_pure rfl rfl rfl ?_ | refine x_load rfl rfl rfl rfl rfl rfl ?_))
            refine walk ?_
            exact l_end trivial (by decide) rfl rfl rfl rfl rfl
          | true =>
            (repeat ((with_reducible refine is_runX ?_); first | refine x_skip rfl rfl ?_ | refine x_pure rfl rfl rfl ?_ | refine x_load rfl rfl rfl rfl rfl rfl ?_))
            refine walk ?_
            rw [wrap_sub 1 (by omega) (by omega) (by omega) hd2]
            refine x_call [] (q_exs) rfl rfl rfl rfl rfl rfl (by decide) rfl rfl rfl rfl rfl rfl ?_
            (repeat ((with_reducible refine is_runX ?_); first | refine x_skip rfl rfl ?_ | refine x_pure rfl rfl rfl ?_ | refine x_load rfl rfl rfl rfl rfl rfl ?_))
            refine walk ?_
            cases h_exs : (x.exs.all fun k => k.may (d - 1)) with
            | false =>
              (repeat ((with_reducible refine is_runX ?_); first | refine x_skip rfl rfl ?_ | refine x_pure rfl rfl rfl ?_ | refine x_load rfl rfl rfl rfl rfl rfl ?_))
              refine walk ?_
              exact l_end trivial (by decide) rfl rfl rfl rfl rfl
            | true =>
              (repeat ((with_reducible refine is_runX ?_); first | refine x_skip rfl rfl ?_ | refine x_pure rfl rfl rfl ?_ | refine x_load rfl rfl rfl rfl rfl rfl ?_))
              refine walk ?_
              refine x_call [] (c_t) rfl rfl rfl rfl rfl rfl (by decide) rfl rfl rfl rfl rfl rfl ?_
              (repeat ((with_reducible refine is_runX ?_); first | refine x_skip rfl rfl ?_ | refine x_pure rfl rfl rfl ?_ | refine x_load rfl rfl rfl rfl rfl rfl ?_))
              refine walk ?_
              refine x_call [] (c_u) rfl rfl rfl rfl rfl rfl (by decide) rfl rfl rfl rfl rfl rfl ?_
              (repeat ((with_reducible refine is_runX ?_); first | refine x_skip rfl rfl ?_ | refine x_pure rfl rfl rfl ?_ | refine x_load rfl rfl rfl rfl rfl rfl ?_))
              refine walk ?_
              exact l_end trivial (by decide) rfl rfl rfl rfl rfl
        | false =>
          (repeat ((with_reducible refine is_runX ?_); first | refine x_skip rfl rfl ?_ | refine x_pure rfl rfl rfl ?_ | refine x_load rfl rfl rfl rfl rfl rfl ?_))
          refine walk ?_
          cases h_n : ((x.n : Int) == 0) with
          | false =>
            (repeat ((with_reducible refine is_runX ?_); first | refine x_skip rfl rfl ?_ | refine x_pure rfl rfl rfl ?_ | refine x_load rfl rfl rfl rfl rfl rfl ?_))
            refine walk ?_
            exact l_end trivial (by decide) rfl rfl rfl rfl rfl
          | true =>
            (repeat ((with_reducible refine is_runX ?_); first | refine x_skip rfl rfl ?_ | refine x_pure rfl rfl rfl ?_ | refine x_load rfl rfl rfl rfl rfl rfl ?_))
            refine walk ?_
            rw [wrap_sub 1 (by omega) (by omega) (by omega) hd2]
            refine x_call [] (q_attrs) rfl rfl rfl rfl rfl rfl (by decide) rfl rfl rfl rfl rfl rfl ?_
            (repeat ((with_reducible refine is_runX ?_); first | refine x_skip rfl rfl ?_ | refine x_pure rfl rfl rfl ?_ | refine x_load rfl rfl rfl rfl rfl rfl ?_))
            refine walk ?_
            cases h_attrs : (x.attrs.all fun k => k.may (d - 1)) with
            | false =>
              (repeat ((with_reducible refine is_runX ?_); first | refine x_skip rfl rfl ?_ | refine x_pure rfl rfl rfl ?_ | refine x_load rfl rfl rfl rfl rfl rfl ?_))
              refine walk ?_
              exact l_end trivial (by decide) rfl rfl rfl rfl rfl
            | true =>
              (repeat ((with_reducible refine is_runX ?_); first | refine x_skip rfl rfl ?_ | refine x_pure rfl rfl rfl ?_ | refine x_load rfl rfl rfl rfl rfl rfl ?_))
              refine walk ?_
              rw [wrap_sub 1 (by omega) (by omega) (by omega) hd2]
              refine x_call [] (q_exs) rfl rfl rfl rfl rfl rfl (by decide) rfl rfl rfl rfl rfl rfl ?_
              (repeat ((with_reducible refine is_runX ?_); first | refine x_skip rfl rfl ?_ | refine x_pure rfl rfl rfl ?_ | refine x_load rfl rfl rfl rfl rfl rfl ?_))
              refine walk ?_
              cases h_exs : (x.exs.all fun k => k.may (d - 1)) with
              | false =>
                (repeat ((with_reducible refine is_runX ?_); first | refine x_skip rfl rfl ?_ | refine x_pure rfl rfl rfl ?_ | refine x_load rfl rfl rfl rfl rfl rfl ?_))
                refine walk ?_
                exact l_end trivial (by decide) rfl rfl rfl rfl rfl
              | true =>
                (repeat ((with_reducible refine is_runX ?_); first | refine x_skip rfl rfl ?_ | refine x_pure rfl rfl rfl ?_ | refine x_load rfl rfl rfl rfl rfl rfl ?_))
                refine walk ?_
                refine x_call [] (c_t) rfl rfl rfl rfl rfl rfl (by decide) rfl rfl rfl rfl rfl rfl ?_
                (repeat ((with_reducible refine is_runX ?_); first | refine x_skip rfl rfl ?_ | refine x_pure rfl rfl rfl ?_ | refine x_load rfl rfl rfl rfl rfl rfl ?_))
                refine walk ?_
                refine x_call [] (c_u) rfl rfl rfl rfl rfl rfl (by decide) rfl rfl rfl rfl rfl rfl ?_
                (repeat ((with_reducible refine is_runX ?_); first | refine x_skip rfl rfl ?_ | refine x_pure rfl rfl rfl ?_ | refine x_load rfl rfl rfl rfl rfl rfl ?_))
                refine walk ?_
                exact l_end trivial (by decide) rfl rfl rfl rfl rfl
set_option maxHeartbeats 8000000 in
theorem rNb_calls (x : Nb) (xa : D) (d : Int) (hbig : x.sz < big) (hwf : x.wf) (hm : x.may d = true) (hx : x.R xa) : CallsA (cx B) 15 [.d xa] [] (sT x.mar) [] := by
  have hlen := Nb.mar_len x
  obtain ⟨z_attrs, l_attrs, z_exs, l_exs, rfl, r_attrs, r_exs⟩ := hx
  unfold Nb.may at hm
  simp only [Bool.and_eq_true, decide_eq_true_eq] at hm
  obtain ⟨⟨⟨⟨hd, m_kn⟩, m_exs⟩, m_attrs⟩, hu⟩ := hm
  obtain ⟨w_attrs, w_start, w_time, w_n, w_exs, w_flags⟩ := hwf
  have hlen : x.mar.length < big := by omega
  unfold Nb.sz at hbig
  unfold Nb.mar Nb.hb at hlen ⊢
  have c0 : CallsA (cx B) 56 [iT 2, uT x.start] [] (sT (fxV 2 x.start)) [] := PutNum_calls B 2 x.start (by omega) (by omega) w_start
  have c1 : CallsA (cx B) 56 [iT 3, uT x.time] [] (sT (fxV 3 x.time)) [] := PutNum_calls B 3 x.time (by omega) (by omega) w_time
  have c2 : CallsA (cx B) 57 [.d (.bool (x.kind == 1)), sT (e8V 4 x.n)] [] (sT (opV 4 (x.kind == 1) x.n)) [] := if1_calls B _ _
  have e2 := rFixed_calls B 4 x.n (by omega) (by omega) w_n
  have c3 : CallsA (cx B) 59 [iT 5, .d (.sl z_exs l_exs)] [] (sT (psV 5 (x.exs.map Em.mar))) [] := rPutEms_calls B 5 (by omega) (by omega) z_exs (d - 1) (by omega) w_exs m_exs r_exs
  have c4 : CallsA (cx B) 57 [.d (.bool (x.kind == 2)), sT (e8V 6 x.n)] [] (sT (opV 6 (x.kind == 2) x.n)) [] := if1_calls B _ _
  have e4 := rFixed_calls B 6 x.n (by omega) (by omega) w_n
  have c5 : CallsA (cx B) 60 [iT 7, .d (.sl z_attrs l_attrs)] [] (sT (psV 7 (Kv.mars x.attrs))) [] := rPutKeys_calls B 7 (by omega) (by omega) x.attrs z_attrs l_attrs (d - 1) (by omega) w_attrs m_attrs r_attrs
  have c6 : CallsA (cx B) 61 [iT 8, uT x.flags] [] (sT (vrV 8 x.flags)) [] := PutVar_calls B 8 x.flags (by omega) (by omega) (by omega)
  generalize fxV 2 x.start = o0 at *
  generalize fxV 3 x.time = o1 at *
  generalize opV 4 (x.kind == 1) x.n = o2 at *
  generalize psV 5 (x.exs.map Em.mar) = o3 at *
  generalize opV 6 (x.kind == 2) x.n = o4 at *
  generalize psV 7 (Kv.mars x.attrs) = o5 at *
  generalize vrV 8 x.flags = o6 at *
  unfold big at hlen
  simp only [List.length_append] at hlen
  refine l_body (X := cx B) (fn := Tryz.f15) Tryz.func15 rfl rfl rfl rfl rfl 0 [] rfl rfl ?_
  refine walk ?_
  refine x_call [] (c0) rfl rfl rfl rfl rfl rfl (by decide) rfl rfl rfl rfl rfl rfl ?_
  refine walk ?_
  refine x_call [] (c1) rfl rfl rfl rfl rfl rfl (by decide) rfl rfl rfl rfl rfl rfl ?_
  refine walk ?_
  refine x_mob (.addStr (a := o0) (b := o1) rfl rfl rfl (by (try simp only [List.length_append]); omega)) rfl rfl rfl ?_
  refine walk ?_
  refine x_call [] (e2) rfl rfl rfl rfl rfl rfl (by decide) rfl rfl rfl rfl rfl rfl ?_
  refine walk ?_
  refine x_call [] (c2) rfl rfl rfl rfl rfl rfl (by decide) rfl rfl rfl rfl rfl rfl ?_
  refine walk ?_
  refine x_mob (.addStr (a := o0 ++ o1) (b := o2) rfl rfl rfl (by (try simp only [List.length_append]); omega)) rfl rfl rfl ?_
  refine walk ?_
  refine x_call [] (c3) rfl rfl rfl rfl rfl rfl (by decide) rfl rfl rfl rfl rfl rfl ?_
  refine walk ?_
  refine x_mob (.addStr (a := o0 ++ o1 ++ o2) (b := o3) rfl rfl rfl (by (try simp only [List.length_append]); omega)) rfl rfl rfl ?_
  refine walk ?_
  refine x_call [] (e4) rfl rfl rfl rfl rfl rfl (by decide) rfl rfl rfl rfl rfl rfl ?_
  refine walk ?_
  refine x_call [] (c4) rfl rfl rfl rfl rfl rfl (by decide) rfl rfl rfl rfl rfl rfl ?_
  refine walk ?_
  refine x_mob (.addStr (a := o0 ++ o1 ++ o2 ++ o3) (b := o4) rfl rfl rfl (by (try simp only [List.length_append]); omega)) rfl rfl rfl ?_
  refine walk ?_
  refine x_call [] (c5) rfl rfl rfl rfl rfl rfl (by decide) rfl rfl rfl rfl rfl rfl ?_
  refine walk ?_
  refine x_mob (.addStr (a := o0 ++ o1 ++ o2 ++ o3 ++ o4) (b := o5) rfl rfl rfl (by (try simp only [List.length_append]); omega)) rfl rfl rfl ?_
  refine walk ?_
  rw [show IntKind.u64.wrap (x.flags : Int) = (x.flags : Int) by rw [IntKind.wrap_u64]; omega]
  refine x_call [] (c6) rfl rfl rfl rfl rfl rfl (by decide) rfl rfl rfl rfl rfl rfl ?_
  refine walk ?_
  refine x_mob (.addStr (a := o0 ++ o1 ++ o2 ++ o3 ++ o4 ++ o5) (b := o6) rfl rfl rfl (by (try simp only [List.length_append]); omega)) rfl rfl rfl ?_
  refine walk ?_
  refine x_mob (.addStr (a := o0 ++ o1 ++ o2 ++ o3 ++ o4 ++ o5 ++ o6) (b := x.u) rfl rfl rfl (by (try simp only [List.length_append]); omega)) rfl rfl rfl ?_
  refine walk ?_
  exact l_end trivial (by decide) rfl rfl rfl rfl rfl
end Go.Proofs.YthogjpjcidfoaaaGreatDoor
