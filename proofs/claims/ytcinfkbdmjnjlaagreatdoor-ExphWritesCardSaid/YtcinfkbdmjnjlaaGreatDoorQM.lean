/- Exp: the reference tells if they may be, and their bytes. -/
import Derived.Test.YtcinfkbdmjnjlaaGreatDoorEM
import Derived.Test.YtcinfkbdmjnjlaaGreatDoorRO
import Derived.Test.YtcinfkbdmjnjlaaGreatDoorRQ
import Derived.Test.YtcinfkbdmjnjlaaGreatDoorQR
set_option linter.unusedSimpArgs false
set_option linter.unusedVariables false
set_option maxRecDepth 100000
namespace Go.Proofs.YtcinfkbdmjnjlaaGreatDoor
open Go Go.Abs
variable (B : Fr)
set_option maxHeartbeats 8000000 in
theorem rMayEh_calls (x : Eh) (xa : D) (d : Int) (hbig : x.sz < big) (hx : x.R xa) (hd1 : -9223372036854775808 ≤ d) (hd2 : d < 9223372036854775808) : CallsA (cx B) 23 [.d xa, .d (.int .i64 d)] [] (.d (.bool (x.may d))) [] := by
  obtain ⟨z_attrs, l_attrs, z_pos, z_neg, z_exs, l_exs, rfl, r_attrs, r_exs⟩ := hx
  unfold Eh.sz at hbig
  unfold big at hbig
  have c_u := Unknown_calls B [10, 17, 25, 33, 41, 48, 57, 66, 74, 80, 90, 97, 105, 113] (by decide) (by decide) x.u d (by unfold big; omega) (by omega) hd2
  rw [unk_eq tk_Eh] at c_u
  have c_t := tabEh_calls B
  have q_attrs : 0 ≤ d → CallsA (cx B) 83 [.d (.sl z_attrs l_attrs), .d (.int .i64 (d - 1))] [] (.d (.bool (x.attrs.all fun k => k.may (d - 1)))) [] := fun h => rMayKeys_calls B x.attrs z_attrs l_attrs (d - 1) (by unfold big; omega) r_attrs (by omega) (by omega)
  have q_exs : 0 ≤ d → CallsA (cx B) 82 [.d (.sl z_exs l_exs), .d (.int .i64 (d - 1))] [] (.d (.bool (x.exs.all fun k => k.may (d - 1)))) [] := fun h => rMayEms_calls B z_exs (d - 1) (by unfold big; omega) (by omega) (by omega) r_exs
  have c_opts := opts_calls B x.sumH x.minH x.maxH x.sum x.min x.max
  have c_pos := rbare_calls B z_pos x.pos
  have q_pos : 0 ≤ d → CallsA (cx B) 80 [.d (bkZ z_pos x.pos.off x.pos.cs x.pos.u), .d (.int .i64 (d - 1))] [] (.d (.bool (x.pos.may (d - 1)))) [] := fun h => rMay_calls B z_pos x.pos.off x.pos.cs x.pos.u (d - 1) (by unfold Bk.sz at hbig; unfold big; omega) (by omega) (by omega)
  have c_neg := rbare_calls B z_neg x.neg
  have q_neg : 0 ≤ d → CallsA (cx B) 80 [.d (bkZ z_neg x.neg.off x.neg.cs x.neg.u), .d (.int .i64 (d - 1))] [] (.d (.bool (x.neg.may (d - 1)))) [] := fun h => rMay_calls B z_neg x.neg.off x.neg.cs x.neg.u (d - 1) (by unfold Bk.sz at hbig; unfold big; omega) (by omega) (by omega)
  have hR : x.may d = (!decide (d < 0) && ((mayOpt x.sumH x.sum && mayOpt x.minH x.min && mayOpt x.maxH x.max) && (maySd x.posH x.pos (d - 1) && (maySd x.negH x.neg (d - 1) && ((x.exs.all fun k => k.may (d - 1)) && ((x.attrs.all fun k => k.may (d - 1)) && restB tbQ x.u d)))))) := by
    unfold Eh.may
    rw [Bool.eq_iff_iff]
    simp only [Bool.and_eq_true, ge_iff_le, decide_eq_true_eq, Bool.not_eq_true', decide_eq_false_iff_not, Int.not_lt]
    constructor <;> (intro h; simp only [h, and_self, true_and, and_true])
  rw [hR]
  clear hR
  refine l_body (X := cx B) (fn := Tryz.f23) Tryz.func23 rfl rfl rfl rfl rfl 0 [] rfl rfl ?_
  refine walk ?_
  cases hd : decide (d < 0) with
  | true =>
    (repeat ((with_reducible refine is_runX ?_); first | refine x_skip rfl rfl ?_ | refine x_pure rfl rfl rfl ?_ | refine x_load rfl rfl rfl rfl rfl rfl ?_))
    refine walk ?_
    exact l_end trivial (by decide) rfl rfl rfl rfl rfl
  | false =>
    have hd0 : 0 ≤ d := by have := of_decide_eq_false hd; omega
    replace q_attrs := q_attrs hd0
    replace q_pos := q_pos hd0
    replace q_neg := q_neg hd0
    replace q_exs := q_exs hd0
    rw [decide_eq_true hd0, Bool.true_and] at c_u
    (repeat ((with_reducible refine is_runX ?_); first | refine x_skip rfl rfl ?_ | refine x_pure rfl rfl rfl ?_ | refine x_load rfl rfl rfl rfl rfl rfl ?_))
    refine walk ?_
    refine l_callG [] (c_opts) rfl rfl rfl rfl rfl rfl rfl rfl rfl (by decide) rfl rfl rfl rfl rfl ?_
    (repeat ((with_reducible refine is_runX ?_); first | refine x_skip rfl rfl ?_ | refine x_pure rfl rfl rfl ?_ | refine x_load rfl rfl rfl rfl rfl rfl ?_))
    refine walk ?_
    cases h_opts : (mayOpt x.sumH x.sum && mayOpt x.minH x.min && mayOpt x.maxH x.max) with
    | false =>
      (repeat ((with_reducible refine is_runX ?_); first | refine x_skip rfl rfl ?_ | refine x_pure rfl rfl rfl ?_ | refine x_load rfl rfl rfl rfl rfl rfl ?_))
      refine walk ?_
      exact l_end trivial (by decide) rfl rfl rfl rfl rfl
    | true =>
      (repeat ((with_reducible refine is_runX ?_); first | refine x_skip rfl rfl ?_ | refine x_pure rfl rfl rfl ?_ | refine x_load rfl rfl rfl rfl rfl rfl ?_))
      refine walk ?_
      cases h_posH : x.posH with
      | true =>
        (repeat ((with_reducible refine is_runX ?_); first | refine x_skip rfl rfl ?_ | refine x_pure rfl rfl rfl ?_ | refine x_load rfl rfl rfl rfl rfl rfl ?_))
        refine walk ?_
        rw [wrap_sub 1 (by omega) (by omega) (by omega) hd2]
        rw [show maySd true x.pos (d - 1) = x.pos.may (d - 1) from rfl]
        refine l_callG [] (q_pos) rfl rfl rfl rfl rfl rfl rfl rfl rfl (by decide) rfl rfl rfl rfl rfl ?_
        (repeat ((with_reducible refine is_runX ?_); first | refine x_skip rfl rfl ?_ | refine x_pure rfl rfl rfl ?_ | refine x_load rfl rfl rfl rfl rfl rfl ?_))
        refine walk ?_
        cases h_pos : x.pos.may (d - 1) with
        | false =>
          (repeat ((with_reducible refine is_runX ?_); first | refine x_skip rfl rfl ?_ | refine x_pure rfl rfl rfl ?_ | refine x_load rfl rfl rfl rfl rfl rfl ?_))
          refine walk ?_
          exact l_end trivial (by decide) rfl rfl rfl rfl rfl
        | true =>
          (repeat ((with_reducible refine is_runX ?_); first | refine x_skip rfl rfl ?_ | refine x_pure rfl rfl rfl ?_ | refine x_load rfl rfl rfl rfl rfl rfl ?_))
          refine walk ?_
          cases h_negH : x.negH with
          | true =>
            (repeat ((with_reducible refine is_runX ?_); first | refine x_skip rfl rfl ?_ | refine x_pure rfl rfl rfl ?_ | refine x_load rfl rfl rfl rfl rfl rfl ?_))
            refine walk ?_
            rw [wrap_sub 1 (by omega) (by omega) (by omega) hd2]
            rw [show maySd true x.neg (d - 1) = x.neg.may (d - 1) from rfl]
            refine l_callG [] (q_neg) rfl rfl rfl rfl rfl rfl rfl rfl rfl (by decide) rfl rfl rfl rfl rfl ?_
            (repeat ((with_reducible refine is_runX ?_); first | refine x_skip rfl rfl ?_ | refine x_pure rfl rfl rfl ?_ | refine x_load rfl rfl rfl rfl rfl rfl ?_))
            refine walk ?_
            cases h_neg : x.neg.may (d - 1) with
            | false =>
              (repeat ((with_reducible refine is_runX ?_); first | refine x_skip rfl rfl ?_ | refine x_pure rfl rfl rfl ?_ | refine x_load rfl rfl rfl rfl rfl rfl ?_))
              refine walk ?_
              exact l_end trivial (by decide) rfl rfl rfl rfl rfl
            | true =>
              (repeat ((with_reducible refine is_runX ?_); first | refine x_skip rfl rfl ?_ | refine x_pure rfl rfl rfl ?_ | refine x_load rfl rfl rfl rfl rfl rfl ?_))
              refine walk ?_
              (repeat ((with_reducible refine is_runX ?_); first | refine x_skip rfl rfl ?_ | refine x_pure rfl rfl rfl ?_ | refine x_load rfl rfl rfl rfl rfl rfl ?_))
              rw [wrap_sub 1 (by omega) (by omega) (by omega) hd2]
              refine x_call [] (q_exs) rfl rfl rfl rfl rfl rfl (by decide) rfl rfl rfl rfl rfl rfl ?_
              (repeat ((with_reducible refine is_runX ?_); first | refine x_skip rfl rfl ?_ | refine x_pure rfl rfl rfl ?_ | refine x_load rfl rfl rfl rfl rfl rfl ?_))
              refine walk ?_
              cases h_exs : (x.exs.all fun k => k.may (d - 1)) with
              | false =>
                (repeat ((with_reducible refine is_runX ?_); first | refine x_skip rfl rfl ?_ | refine x_pure rfl rfl rfl ?_ | refine x_load rfl rfl rfl rfl rfl rfl ?_))
                refine walk ?_
                exact l_end trivial (by decide) rfl rfl rfl rfl rfl
              | true =>
                (repeat ((with_reducible refine is_runX ?_); first | refine x_skip rfl rfl ?_ | refine x_pure rfl rfl rfl ?_ | refine x_load rfl rfl rfl rfl rfl rfl ?_))
                refine walk ?_
                rw [wrap_sub 1 (by omega) (by omega) (by omega) hd2]
                refine x_call [] (q_attrs) rfl rfl rfl rfl rfl rfl (by decide) rfl rfl rfl rfl rfl rfl ?_
                (repeat ((with_reducible refine is_runX ?_); first | refine x_skip rfl rfl ?_ | refine x_pure rfl rfl rfl ?_ | refine x_load rfl rfl rfl rfl rfl rfl ?_))
                refine walk ?_
                cases h_attrs : (x.attrs.all fun k => k.may (d - 1)) with
                | false =>
                  (repeat ((with_reducible refine is_runX ?_); first | refine x_skip rfl rfl ?_ | refine x_pure rfl rfl rfl ?_ | refine x_load rfl rfl rfl rfl rfl rfl ?_))
                  refine walk ?_
                  exact l_end trivial (by decide) rfl rfl rfl rfl rfl
                | true =>
                  (repeat ((with_reducible refine is_runX ?_); first | refine x_skip rfl rfl ?_ | refine x_pure rfl rfl rfl ?_ | refine x_load rfl rfl rfl rfl rfl rfl ?_))
                  refine walk ?_
                  refine x_call [] (c_t) rfl rfl rfl rfl rfl rfl (by decide) rfl rfl rfl rfl rfl rfl ?_
                  (repeat ((with_reducible refine is_runX ?_); first | refine x_skip rfl rfl ?_ | refine x_pure rfl rfl rfl ?_ | refine x_load rfl rfl rfl rfl rfl rfl ?_))
                  refine walk ?_
                  refine x_call [] (c_u) rfl rfl rfl rfl rfl rfl (by decide) rfl rfl rfl rfl rfl rfl ?_
                  (repeat ((with_reducible refine is_runX ?_); first | refine x_skip rfl rfl ?_ | refine x_pure rfl rfl rfl ?_ | refine x_load rfl rfl rfl rfl rfl rfl ?_))
                  refine walk ?_
                  exact l_end trivial (by decide) rfl rfl rfl rfl rfl
          | false =>
            (repeat ((with_reducible refine is_runX ?_); first | refine x_skip rfl rfl ?_ | refine x_pure rfl rfl rfl ?_ | refine x_load rfl rfl rfl rfl rfl rfl ?_))
            refine walk ?_
            rw [show maySd false x.neg (d - 1) = x.neg.isNo from rfl]
            refine l_callG [] (c_neg) rfl rfl rfl rfl rfl rfl rfl rfl rfl (by decide) rfl rfl rfl rfl rfl ?_
            (repeat ((with_reducible refine is_runX ?_); first | refine x_skip rfl rfl ?_ | refine x_pure rfl rfl rfl ?_ | refine x_load rfl rfl rfl rfl rfl rfl ?_))
            refine walk ?_
            cases h_neg : x.neg.isNo with
            | false =>
              (repeat ((with_reducible refine is_runX ?_); first | refine x_skip rfl rfl ?_ | refine x_pure rfl rfl rfl ?_ | refine x_load rfl rfl rfl rfl rfl rfl ?_))
              refine walk ?_
              exact l_end trivial (by decide) rfl rfl rfl rfl rfl
            | true =>
              (repeat ((with_reducible refine is_runX ?_); first | refine x_skip rfl rfl ?_ | refine x_pure rfl rfl rfl ?_ | refine x_load rfl rfl rfl rfl rfl rfl ?_))
              refine walk ?_
              (repeat ((with_reducible refine is_runX ?_); first | refine x_skip rfl rfl ?_ | refine x_pure rfl rfl rfl ?_ | refine x_load rfl rfl rfl rfl rfl rfl ?_))
              rw [wrap_sub 1 (by omega) (by omega) (by omega) hd2]
              refine x_call [] (q_exs) rfl rfl rfl rfl rfl rfl (by decide) rfl rfl rfl rfl rfl rfl ?_
              (repeat ((with_reducible refine is_runX ?_); first | refine x_skip rfl rfl ?_ | refine x_pure rfl rfl rfl ?_ | refine x_load rfl rfl rfl rfl rfl rfl ?_))
              refine walk ?_
              cases h_exs : (x.exs.all fun k => k.may (d - 1)) with
              | false =>
                (repeat ((with_reducible refine is_runX ?_); first | refine x_skip rfl rfl ?_ | refine x_pure rfl rfl rfl ?_ | refine x_load rfl rfl rfl rfl rfl rfl ?_))
                refine walk ?_
                exact l_end trivial (by decide) rfl rfl rfl rfl rfl
              | true =>
                (repeat ((with_reducible refine is_runX ?_); first | refine x_skip rfl rfl ?_ | refine x_pure rfl rfl rfl ?_ | refine x_load rfl rfl rfl rfl rfl rfl ?_))
                refine walk ?_
                rw [wrap_sub 1 (by omega) (by omega) (by omega) hd2]
                refine x_call [] (q_attrs) rfl rfl rfl rfl rfl rfl (by decide) rfl rfl rfl rfl rfl rfl ?_
                (repeat ((with_reducible refine is_runX ?_); first | refine x_skip rfl rfl ?_ | refine x_pure rfl rfl rfl ?_ | refine x_load rfl rfl rfl rfl rfl rfl ?_))
                refine walk ?_
                cases h_attrs : (x.attrs.all fun k => k.may (d - 1)) with
                | false =>
                  (repeat ((with_reducible refine is_runX ?_); first | refine x_skip rfl rfl ?_ | refine x_pure rfl rfl rfl ?_ | refine x_load rfl rfl rfl rfl rfl rfl ?_))
                  refine walk ?_
                  exact l_end trivial (by decide) rfl rfl rfl rfl rfl
                | true =>
                  (repeat ((with_reducible refine is_runX ?_); first | refine x_skip rfl rfl ?_ | refine x_pure rfl rfl rfl ?_ | refine x_load rfl rfl rfl rfl rfl rfl ?_))
                  refine walk ?_
                  refine x_call [] (c_t) rfl rfl rfl rfl rfl rfl (by decide) rfl rfl rfl rfl rfl rfl ?_
                  (repeat ((with_reducible refine is_runX ?_); first | refine x_skip rfl rfl ?_ | refine x_pure rfl rfl rfl ?_ | refine x_load rfl rfl rfl rfl rfl rfl ?_))
                  refine walk ?_
                  refine x_call [] (c_u) rfl rfl rfl rfl rfl rfl (by decide) rfl rfl rfl rfl rfl rfl ?_
                  (repeat ((with_reducible refine is_runX ?_); first | refine x_skip rfl rfl ?_ | refine x_pure rfl rfl rfl ?_ | refine x_load rfl rfl rfl rfl rfl rfl ?_))
                  refine walk ?_
                  exact l_end trivial (by decide) rfl rfl rfl rfl rfl
      | false =>
        (repeat ((with_reducible refine is_runX ?_); first | refine x_skip rfl rfl ?_ | refine x_pure rfl rfl rfl ?_ | refine x_load rfl rfl rfl rfl rfl rfl ?_))
        refine walk ?_
        rw [show maySd false x.pos (d - 1) = x.pos.isNo from rfl]
        refine l_callG [] (c_pos) rfl rfl rfl rfl rfl rfl rfl rfl rfl (by decide) rfl rfl rfl rfl rfl ?_
        (repeat ((with_reducible refine is_runX ?_); first | refine x_skip rfl rfl ?_ | refine x_pure rfl rfl rfl ?_ | refine x_load rfl rfl rfl rfl rfl rfl ?_))
        refine walk ?_
        cases h_pos : x.pos.isNo with
        | false =>
          (repeat ((with_reducible refine is_runX ?_); first | refine x_skip rfl rfl ?_ | refine x_pure rfl rfl rfl ?_ | refine x_load rfl rfl rfl rfl rfl rfl ?_))
          refine walk ?_
          exact l_end trivial (by decide) rfl rfl rfl rfl rfl
        | true =>
          (repeat ((with_reducible refine is_runX ?_); first | refine x_skip rfl rfl ?_ | refine x_pure rfl rfl rfl ?_ | refine x_load rfl rfl rfl rfl rfl rfl ?_))
          refine walk ?_
          cases h_negH : x.negH with
          | true =>
            (repeat ((with_reducible refine is_runX ?_); first | refine x_skip rfl rfl ?_ | refine x_pure rfl rfl rfl ?_ | refine x_load rfl rfl rfl rfl rfl rfl ?_))
            refine walk ?_
            rw [wrap_sub 1 (by omega) (by omega) (by omega) hd2]
            rw [show maySd true x.neg (d - 1) = x.neg.may (d - 1) from rfl]
            refine l_callG [] (q_neg) rfl rfl rfl rfl rfl rfl rfl rfl rfl (by decide) rfl rfl rfl rfl rfl ?_
            (repeat ((with_reducible refine is_runX ?_); first | refine x_skip rfl rfl ?_ | refine x_pure rfl rfl rfl ?_ | refine x_load rfl rfl rfl rfl rfl rfl ?_))
            refine walk ?_
            cases h_neg : x.neg.may (d - 1) with
            | false =>
              (repeat ((with_reducible refine is_runX ?_); first | refine x_skip rfl rfl ?_ | refine x_pure rfl rfl rfl ?_ | refine x_load rfl rfl rfl rfl rfl rfl ?_))
              refine walk ?_
              exact l_end trivial (by decide) rfl rfl rfl rfl rfl
            | true =>
              (repeat ((with_reducible refine is_runX ?_); first | refine x_skip rfl rfl ?_ | refine x_pure rfl rfl rfl ?_ | refine x_load rfl rfl rfl rfl rfl rfl ?_))
              refine walk ?_
              (repeat ((with_reducible refine is_runX ?_); first | refine x_skip rfl rfl ?_ | refine x_pure rfl rfl rfl ?_ | refine x_load rfl rfl rfl rfl rfl rfl ?_))
              rw [wrap_sub 1 (by omega) (by omega) (by omega) hd2]
              refine x_call [] (q_exs) rfl rfl rfl rfl rfl rfl (by decide) rfl rfl rfl rfl rfl rfl ?_
              (repeat ((with_reducible refine is_runX ?_); first | refine x_skip rfl rfl ?_ | refine x_pure rfl rfl rfl ?_ | refine x_load rfl rfl rfl rfl rfl rfl ?_))
              refine walk ?_
              cases h_exs : (x.exs.all fun k => k.may (d - 1)) with
              | false =>
                (repeat ((with_reducible refine is_runX ?_); first | refine x_skip rfl rfl ?_ | refine x_pure rfl rfl rfl ?_ | refine x_load rfl rfl rfl rfl rfl rfl ?_))
                refine walk ?_
                exact l_end trivial (by decide) rfl rfl rfl rfl rfl
              | true =>
                (repeat ((with_reducible refine is_runX ?_); first | refine x_skip rfl rfl ?_ | refine x_pure rfl rfl rfl ?_ | refine x_load rfl rfl rfl rfl rfl rfl ?_))
                refine walk ?_
                rw [wrap_sub 1 (by omega) (by omega) (by omega) hd2]
                refine x_call [] (q_attrs) rfl rfl rfl rfl rfl rfl (by decide) rfl rfl rfl rfl rfl rfl ?_
                (repeat ((with_reducible refine is_runX ?_); first | refine x_skip rfl rfl ?_ | refine x_pure rfl rfl rfl ?_ | refine x_load rfl rfl rfl rfl rfl rfl ?_))
                refine walk ?_
                cases h_attrs : (x.attrs.all fun k => k.may (d - 1)) with
                | false =>
                  (repeat ((with_reducible refine is_runX ?_); first | refine x_skip rfl rfl ?_ | refine x_pure rfl rfl rfl ?_ | refine x_load rfl rfl rfl rfl rfl rfl ?_))
                  refine walk ?_
                  exact l_end trivial (by decide) rfl rfl rfl rfl rfl
                | true =>
                  (repeat ((with_reducible refine is_runX ?_); first | refine x_skip rfl rfl ?_ | refine x_pure rfl rfl rfl ?_ | refine x_load rfl rfl rfl rfl rfl rfl ?_))
                  refine walk ?_
                  refine x_call [] (c_t) rfl rfl rfl rfl rfl rfl (by decide) rfl rfl rfl rfl rfl rfl ?_
                  (repeat ((with_reducible refine is_runX ?_); first | refine x_skip rfl rfl ?_ | refine x_pure rfl rfl rfl ?_ | refine x_load rfl rfl rfl rfl rfl rfl ?_))
                  refine walk ?_
                  refine x_call [] (c_u) rfl rfl rfl rfl rfl rfl (by decide) rfl rfl rfl rfl rfl rfl ?_
                  (repeat ((with_reducible refine is_runX ?_); first | refine x_skip rfl rfl ?_ | refine x_pure rfl rfl rfl ?_ | refine x_load rfl rfl rfl rfl rfl rfl ?_))
                  refine walk ?_
                  exact l_end trivial (by decide) rfl rfl rfl rfl rfl
          | false =>
            (repeat ((with_reducible refine is_runX ?_); first | refine x_skip rfl rfl ?_ | refine x_pure rfl rfl rfl ?_ | refine x_load rfl rfl rfl rfl rfl rfl ?_))
            refine walk ?_
            rw [show maySd false x.neg (d - 1) = x.neg.isNo from rfl]
            refine l_callG [] (c_neg) rfl rfl rfl rfl rfl rfl rfl rfl rfl (by decide) rfl rfl rfl rfl rfl ?_
            (repeat ((with_reducible refine is_runX ?_); first | refine x_skip rfl rfl ?_ | refine x_pure rfl rfl rfl ?_ | refine x_load rfl rfl rfl rfl rfl rfl ?_))
            refine walk ?_
            cases h_neg : x.neg.isNo with
            | false =>
              (repeat ((with_reducible refine is_runX ?_); first | refine x_skip rfl rfl ?_ | refine x_pure rfl rfl rfl ?_ | refine x_load rfl rfl rfl rfl rfl rfl ?_))
              refine walk ?_
              exact l_end trivial (by decide) rfl rfl rfl rfl rfl
            | true =>
              (repeat ((with_reducible refine is_runX ?_); first | refine x_skip rfl rfl ?_ | refine x_pure rfl rfl rfl ?_ | refine x_load rfl rfl rfl rfl rfl rfl ?_))
              refine walk ?_
              (repeat ((with_reducible refine is_runX ?_); first | refine x_skip rfl rfl ?_ | refine x_pure rfl rfl rfl ?_ | refine x_load rfl rfl rfl rfl rfl rfl ?_))
              rw [wrap_sub 1 (by omega) (by omega) (by omega) hd2]
              refine x_call [] (q_exs) rfl rfl rfl rfl rfl rfl (by decide) rfl rfl rfl rfl rfl rfl ?_
              (repeat ((with_reducible refine is_runX ?_); first | refine x_skip rfl rfl ?_ | refine x_pure rfl rfl rfl ?_ | refine x_load rfl rfl rfl rfl rfl rfl ?_))
              refine walk ?_
              cases h_exs : (x.exs.all fun k => k.may (d - 1)) with
              | false =>
                (repeat ((with_reducible refine is_runX ?_); first | refine x_skip rfl rfl ?_ | refine x_pure rfl rfl rfl ?_ | refine x_load rfl rfl rfl rfl rfl rfl ?_))
                refine walk ?_
                exact l_end trivial (by decide) rfl rfl rfl rfl rfl
              | true =>
                (repeat ((with_reducible refine is_runX ?_); first | refine x_skip rfl rfl ?_ | refine x_pure rfl rfl rfl ?_ | refine x_load rfl rfl rfl rfl rfl rfl ?_))
                refine walk ?_
                rw [wrap_sub 1 (by omega) (by omega) (by omega) hd2]
                refine x_call [] (q_attrs) rfl rfl rfl rfl rfl rfl (by decide) rfl rfl rfl rfl rfl rfl ?_
                (repeat ((with_reducible refine is_runX ?_); first | refine x_skip rfl rfl ?_ | refine x_pure rfl rfl rfl ?_ | refine x_load rfl rfl rfl rfl rfl rfl ?_))
                refine walk ?_
                cases h_attrs : (x.attrs.all fun k => k.may (d - 1)) with
                | false =>
                  (repeat ((with_reducible refine is_runX ?_); first | refine x_skip rfl rfl ?_ | refine x_pure rfl rfl rfl ?_ | refine x_load rfl rfl rfl rfl rfl rfl ?_))
                  refine walk ?_
                  exact l_end trivial (by decide) rfl rfl rfl rfl rfl
                | true =>
                  (repeat ((with_reducible refine is_runX ?_); first | refine x_skip rfl rfl ?_ | refine x_pure rfl rfl rfl ?_ | refine x_load rfl rfl rfl rfl rfl rfl ?_))
                  refine walk ?_
                  refine x_call [] (c_t) rfl rfl rfl rfl rfl rfl (by decide) rfl rfl rfl rfl rfl rfl ?_
                  (repeat ((with_reducible refine is_runX ?_); first | refine x_skip rfl rfl ?_ | refine x_pure rfl rfl rfl ?_ | refine x_load rfl rfl rfl rfl rfl rfl ?_))
                  refine walk ?_
                  refine x_call [] (c_u) rfl rfl rfl rfl rfl rfl (by decide) rfl rfl rfl rfl rfl rfl ?_
                  (repeat ((with_reducible refine is_runX ?_); first | refine x_skip rfl rfl ?_ | refine x_pure rfl rfl rfl ?_ | refine x_load rfl rfl rfl rfl rfl rfl ?_))
                  refine walk ?_
                  exact l_end trivial (by decide) rfl rfl rfl rfl rfl
set_option maxHeartbeats 8000000 in
theorem rEh_calls (x : Eh) (xa : D) (d : Int) (hbig : x.sz < big) (hwf : x.wf) (hm : x.may d = true) (hx : x.R xa) : CallsA (cx B) 24 [.d xa] [] (sT x.mar) [] := by
  have hlen := Eh.mar_len x
  obtain ⟨z_attrs, l_attrs, z_pos, z_neg, z_exs, l_exs, rfl, r_attrs, r_exs⟩ := hx
  unfold Eh.may at hm
  simp only [Bool.and_eq_true, decide_eq_true_eq] at hm
  obtain ⟨⟨⟨⟨⟨⟨hd, ⟨⟨m_sum, m_min⟩, m_max⟩⟩, m_pos⟩, m_neg⟩, m_exs⟩, m_attrs⟩, hu⟩ := hm
  obtain ⟨w_attrs, w_start, w_time, w_count, w_sum, w_min, w_max, w_scale, w_zero, w_pos, w_neg, w_exs, w_flags, w_thr⟩ := hwf
  have hlen : x.mar.length < big := by omega
  unfold Eh.sz at hbig
  unfold Eh.mar Eh.hb at hlen ⊢
  have c0 : CallsA (cx B) 85 [iT 1, .d (.sl z_attrs l_attrs)] [] (sT (psV 1 (Kv.mars x.attrs))) [] := rPutKeys_calls B 1 (by omega) (by omega) x.attrs z_attrs l_attrs (d - 1) (by omega) w_attrs m_attrs r_attrs
  have c1 : CallsA (cx B) 86 [iT 2, uT x.start] [] (sT (fxV 2 x.start)) [] := PutNum_calls B 2 x.start (by omega) (by omega) w_start
  have c2 : CallsA (cx B) 86 [iT 3, uT x.time] [] (sT (fxV 3 x.time)) [] := PutNum_calls B 3 x.time (by omega) (by omega) w_time
  have c3 : CallsA (cx B) 86 [iT 4, uT x.count] [] (sT (fxV 4 x.count)) [] := PutNum_calls B 4 x.count (by omega) (by omega) w_count
  have c4 : CallsA (cx B) 87 [iT 5, .d (.agg [.bool x.sumH, .int .u64 x.sum])] [] (sT (opV 5 x.sumH x.sum)) [] := PutOpt_calls B 5 x.sumH x.sum (by omega) (by omega) w_sum
  have c5 : CallsA (cx B) 88 [iT 6, uT (zig32 x.scale)] [] (sT (vrV 6 (zig32 x.scale))) [] := PutVar_calls B 6 (zig32 x.scale) (by omega) (by omega) (zig32_lt _ w_scale.1 w_scale.2)
  have c6 : CallsA (cx B) 86 [iT 7, uT x.zero] [] (sT (fxV 7 x.zero)) [] := PutNum_calls B 7 x.zero (by omega) (by omega) w_zero
  have c7 : CallsA (cx B) 90 [iT 8, .d (.bool x.posH), .d (bkZ z_pos x.pos.off x.pos.cs x.pos.u)] [] (sT (sdV 8 x.posH x.pos)) [] := rside_calls B z_pos 8 x.posH x.pos (by omega) (by omega) (by omega) w_pos
  have c8 : CallsA (cx B) 90 [iT 9, .d (.bool x.negH), .d (bkZ z_neg x.neg.off x.neg.cs x.neg.u)] [] (sT (sdV 9 x.negH x.neg)) [] := rside_calls B z_neg 9 x.negH x.neg (by omega) (by omega) (by omega) w_neg
  have c9 : CallsA (cx B) 88 [iT 10, uT x.flags] [] (sT (vrV 10 x.flags)) [] := PutVar_calls B 10 x.flags (by omega) (by omega) (by omega)
  have c10 : CallsA (cx B) 91 [iT 11, .d (.sl z_exs l_exs)] [] (sT (psV 11 (x.exs.map Em.mar))) [] := rPutEms_calls B 11 (by omega) (by omega) z_exs (d - 1) (by omega) w_exs m_exs r_exs
  have c11 : CallsA (cx B) 87 [iT 12, .d (.agg [.bool x.minH, .int .u64 x.min])] [] (sT (opV 12 x.minH x.min)) [] := PutOpt_calls B 12 x.minH x.min (by omega) (by omega) w_min
  have c12 : CallsA (cx B) 87 [iT 13, .d (.agg [.bool x.maxH, .int .u64 x.max])] [] (sT (opV 13 x.maxH x.max)) [] := PutOpt_calls B 13 x.maxH x.max (by omega) (by omega) w_max
  have c13 : CallsA (cx B) 86 [iT 14, uT x.thr] [] (sT (fxV 14 x.thr)) [] := PutNum_calls B 14 x.thr (by omega) (by omega) w_thr
  generalize psV 1 (Kv.mars x.attrs) = o0 at *
  generalize fxV 2 x.start = o1 at *
  generalize fxV 3 x.time = o2 at *
  generalize fxV 4 x.count = o3 at *
  generalize opV 5 x.sumH x.sum = o4 at *
  generalize vrV 6 (zig32 x.scale) = o5 at *
  generalize fxV 7 x.zero = o6 at *
  generalize sdV 8 x.posH x.pos = o7 at *
  generalize sdV 9 x.negH x.neg = o8 at *
  generalize vrV 10 x.flags = o9 at *
  generalize psV 11 (x.exs.map Em.mar) = o10 at *
  generalize opV 12 x.minH x.min = o11 at *
  generalize opV 13 x.maxH x.max = o12 at *
  generalize fxV 14 x.thr = o13 at *
  unfold big at hlen
  simp only [List.length_append] at hlen
  refine l_body (X := cx B) (fn := Tryz.f24) Tryz.func24 rfl rfl rfl rfl rfl 0 [] rfl rfl ?_
  refine walk ?_
  refine x_call [] (c0) rfl rfl rfl rfl rfl rfl (by decide) rfl rfl rfl rfl rfl rfl ?_
  refine walk ?_
  refine x_call [] (c1) rfl rfl rfl rfl rfl rfl (by decide) rfl rfl rfl rfl rfl rfl ?_
  refine walk ?_
  refine x_mob (.addStr (a := o0) (b := o1) rfl rfl rfl (by (try simp only [List.length_append]); omega)) rfl rfl rfl ?_
  refine walk ?_
  refine x_call [] (c2) rfl rfl rfl rfl rfl rfl (by decide) rfl rfl rfl rfl rfl rfl ?_
  refine walk ?_
  refine x_mob (.addStr (a := o0 ++ o1) (b := o2) rfl rfl rfl (by (try simp only [List.length_append]); omega)) rfl rfl rfl ?_
  refine walk ?_
  refine x_call [] (c3) rfl rfl rfl rfl rfl rfl (by decide) rfl rfl rfl rfl rfl rfl ?_
  refine walk ?_
  refine x_mob (.addStr (a := o0 ++ o1 ++ o2) (b := o3) rfl rfl rfl (by (try simp only [List.length_append]); omega)) rfl rfl rfl ?_
  refine walk ?_
  refine x_call [] (c4) rfl rfl rfl rfl rfl rfl (by decide) rfl rfl rfl rfl rfl rfl ?_
  refine walk ?_
  refine x_mob (.addStr (a := o0 ++ o1 ++ o2 ++ o3) (b := o4) rfl rfl rfl (by (try simp only [List.length_append]); omega)) rfl rfl rfl ?_
  refine walk ?_
  refine x_call [] (rZig32_calls B x.scale w_scale.1 w_scale.2) rfl rfl rfl rfl rfl rfl (by decide) rfl rfl rfl rfl rfl rfl ?_
  refine walk ?_
  refine x_call [] (c5) rfl rfl rfl rfl rfl rfl (by decide) rfl rfl rfl rfl rfl rfl ?_
  refine walk ?_
  refine x_mob (.addStr (a := o0 ++ o1 ++ o2 ++ o3 ++ o4) (b := o5) rfl rfl rfl (by (try simp only [List.length_append]); omega)) rfl rfl rfl ?_
  refine walk ?_
  refine x_call [] (c6) rfl rfl rfl rfl rfl rfl (by decide) rfl rfl rfl rfl rfl rfl ?_
  refine walk ?_
  refine x_mob (.addStr (a := o0 ++ o1 ++ o2 ++ o3 ++ o4 ++ o5) (b := o6) rfl rfl rfl (by (try simp only [List.length_append]); omega)) rfl rfl rfl ?_
  refine walk ?_
  refine x_call [] (c7) rfl rfl rfl rfl rfl rfl (by decide) rfl rfl rfl rfl rfl rfl ?_
  refine walk ?_
  refine x_mob (.addStr (a := o0 ++ o1 ++ o2 ++ o3 ++ o4 ++ o5 ++ o6) (b := o7) rfl rfl rfl (by (try simp only [List.length_append]); omega)) rfl rfl rfl ?_
  refine walk ?_
  refine x_call [] (c8) rfl rfl rfl rfl rfl rfl (by decide) rfl rfl rfl rfl rfl rfl ?_
  refine walk ?_
  refine x_mob (.addStr (a := o0 ++ o1 ++ o2 ++ o3 ++ o4 ++ o5 ++ o6 ++ o7) (b := o8) rfl rfl rfl (by (try simp only [List.length_append]); omega)) rfl rfl rfl ?_
  refine walk ?_
  rw [show IntKind.u64.wrap (x.flags : Int) = (x.flags : Int) by rw [IntKind.wrap_u64]; omega]
  refine x_call [] (c9) rfl rfl rfl rfl rfl rfl (by decide) rfl rfl rfl rfl rfl rfl ?_
  refine walk ?_
  refine x_mob (.addStr (a := o0 ++ o1 ++ o2 ++ o3 ++ o4 ++ o5 ++ o6 ++ o7 ++ o8) (b := o9) rfl rfl rfl (by (try simp only [List.length_append]); omega)) rfl rfl rfl ?_
  refine walk ?_
  refine x_call [] (c10) rfl rfl rfl rfl rfl rfl (by decide) rfl rfl rfl rfl rfl rfl ?_
  refine walk ?_
  refine x_mob (.addStr (a := o0 ++ o1 ++ o2 ++ o3 ++ o4 ++ o5 ++ o6 ++ o7 ++ o8 ++ o9) (b := o10) rfl rfl rfl (by (try simp only [List.length_append]); omega)) rfl rfl rfl ?_
  refine walk ?_
  refine x_call [] (c11) rfl rfl rfl rfl rfl rfl (by decide) rfl rfl rfl rfl rfl rfl ?_
  refine walk ?_
  refine x_mob (.addStr (a := o0 ++ o1 ++ o2 ++ o3 ++ o4 ++ o5 ++ o6 ++ o7 ++ o8 ++ o9 ++ o10) (b := o11) rfl rfl rfl (by (try simp only [List.length_append]); omega)) rfl rfl rfl ?_
  refine walk ?_
  refine x_call [] (c12) rfl rfl rfl rfl rfl rfl (by decide) rfl rfl rfl rfl rfl rfl ?_
  refine walk ?_
  refine x_mob (.addStr (a := o0 ++ o1 ++ o2 ++ o3 ++ o4 ++ o5 ++ o6 ++ o7 ++ o8 ++ o9 ++ o10 ++ o11) (b := o12) rfl rfl rfl (by (try simp only [List.length_append]); omega)) rfl rfl rfl ?_
  refine walk ?_
  refine x_call [] (c13) rfl rfl rfl rfl rfl rfl (by decide) rfl rfl rfl rfl rfl rfl ?_
  refine walk ?_
  refine x_mob (.addStr (a := o0 ++ o1 ++ o2 ++ o3 ++ o4 ++ o5 ++ o6 ++ o7 ++ o8 ++ o9 ++ o10 ++ o11 ++ o12) (b := o13) rfl rfl rfl (by (try simp only [List.length_append]); omega)) rfl rfl rfl ?_
  refine walk ?_
  refine x_mob (.addStr (a := o0 ++ o1 ++ o2 ++ o3 ++ o4 ++ o5 ++ o6 ++ o7 ++ o8 ++ o9 ++ o10 ++ o11 ++ o12 ++ o13) (b := x.u) rfl rfl rfl (by (try simp only [List.length_append]); omega)) rfl rfl rfl ?_
  refine walk ?_
  exact l_end trivial (by decide) rfl rfl rfl rfl rfl
end Go.Proofs.YtcinfkbdmjnjlaaGreatDoor
