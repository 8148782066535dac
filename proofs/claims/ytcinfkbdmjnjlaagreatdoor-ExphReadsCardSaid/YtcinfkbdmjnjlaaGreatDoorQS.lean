/- Exp: the reference tells if two are alike. -/
import Derived.Test.YtcinfkbdmjnjlaaGreatDoorES
import Derived.Test.YtcinfkbdmjnjlaaGreatDoorSD
import Derived.Test.YtcinfkbdmjnjlaaGreatDoorQW
set_option linter.unusedSimpArgs false
set_option linter.unusedVariables false
set_option maxRecDepth 100000
namespace Go.Proofs.YtcinfkbdmjnjlaaGreatDoor
open Go Go.Abs
variable (B : Fr)
theorem refEh_calls (x y : Eh) (xa ya : D) (hbig : x.sz < big) (hx : x.R xa) (hy : y.R ya) : CallsA (cx B) 15 [.d xa, .d ya] [] (.d (.bool (x.eq y))) [] := by
  obtain ⟨z_attrs, l_attrs, z_pos, z_neg, z_exs, l_exs, rfl, r_attrs, r_exs⟩ := hx
  obtain ⟨y_attrs, m_attrs, y_pos, y_neg, y_exs, m_exs, rfl, s_attrs, s_exs⟩ := hy
  unfold Eh.sz at hbig
  have c_attrs := refKeys_calls B (a := x.attrs) (b := y.attrs) z_attrs y_attrs (by omega) r_attrs s_attrs
  have c_exs := refEms_calls B (a := x.exs) (b := y.exs) z_exs y_exs (by omega) r_exs s_exs
  have c_sum := refOpt_calls B x.sumH x.sum y.sumH y.sum
  have c_min := refOpt_calls B x.minH x.min y.minH y.min
  have c_max := refOpt_calls B x.maxH x.max y.maxH y.max
  have c_pos := refBk_calls B z_pos y_pos x.pos y.pos (by unfold Bk.sz big at hbig; omega)
  have c_neg := refBk_calls B z_neg y_neg x.neg y.neg (by unfold Bk.sz big at hbig; omega)
  rw [show x.eq y = ((Kv.eqs x.attrs y.attrs) && (x.start == y.start) && (x.time == y.time) && (x.count == y.count) && (x.sumH == y.sumH && x.sum == y.sum) && (x.minH == y.minH && x.min == y.min) && (x.maxH == y.maxH && x.max == y.max) && (x.scale == y.scale) && (x.zero == y.zero) && (x.posH == y.posH) && (x.pos.eq y.pos) && (x.negH == y.negH) && (x.neg.eq y.neg) && (Em.eqs x.exs y.exs) && (x.flags == y.flags) && (x.thr == y.thr) && (x.u == y.u)) by unfold Eh.eq; ac_rfl]
  refine l_body (X := cx B) (fn := Tryz.f15) Tryz.func15 rfl rfl rfl rfl rfl 0 [] rfl rfl ?_
  refine walk ?_
  refine l_call [] (c_attrs) rfl rfl rfl rfl rfl rfl rfl (by decide) rfl rfl rfl rfl rfl ?_
  refine walk ?_
  cases e0 : (Kv.eqs x.attrs y.attrs) with
  | false =>
    refine walk ?_
    exact l_end trivial (by decide) rfl rfl rfl rfl rfl
  | true =>
    refine walk ?_
    rw [ibeq x.start y.start]
    cases e1 : (x.start == y.start) with
    | false =>
      refine walk ?_
      exact l_end trivial (by decide) rfl rfl rfl rfl rfl
    | true =>
      refine walk ?_
      rw [ibeq x.time y.time]
      cases e2 : (x.time == y.time) with
      | false =>
        refine walk ?_
        exact l_end trivial (by decide) rfl rfl rfl rfl rfl
      | true =>
        refine walk ?_
        rw [ibeq x.count y.count]
        cases e3 : (x.count == y.count) with
        | false =>
          refine walk ?_
          exact l_end trivial (by decide) rfl rfl rfl rfl rfl
        | true =>
          refine walk ?_
          refine l_callG [] (c_sum) rfl rfl rfl rfl rfl rfl rfl rfl rfl (by decide) rfl rfl rfl rfl rfl ?_
          refine walk ?_
          cases e4 : (x.sumH == y.sumH && x.sum == y.sum) with
          | false =>
            refine walk ?_
            exact l_end trivial (by decide) rfl rfl rfl rfl rfl
          | true =>
            refine walk ?_
            refine l_callG [] (c_min) rfl rfl rfl rfl rfl rfl rfl rfl rfl (by decide) rfl rfl rfl rfl rfl ?_
            refine walk ?_
            cases e5 : (x.minH == y.minH && x.min == y.min) with
            | false =>
              refine walk ?_
              exact l_end trivial (by decide) rfl rfl rfl rfl rfl
            | true =>
              refine walk ?_
              refine l_callG [] (c_max) rfl rfl rfl rfl rfl rfl rfl rfl rfl (by decide) rfl rfl rfl rfl rfl ?_
              refine walk ?_
              cases e6 : (x.maxH == y.maxH && x.max == y.max) with
              | false =>
                refine walk ?_
                exact l_end trivial (by decide) rfl rfl rfl rfl rfl
              | true =>
                refine walk ?_
                cases e7 : (x.scale == y.scale) with
                | false =>
                  refine walk ?_
                  exact l_end trivial (by decide) rfl rfl rfl rfl rfl
                | true =>
                  refine walk ?_
                  rw [ibeq x.zero y.zero]
                  cases e8 : (x.zero == y.zero) with
                  | false =>
                    refine walk ?_
                    exact l_end trivial (by decide) rfl rfl rfl rfl rfl
                  | true =>
                    refine walk ?_
                    cases e9 : (x.posH == y.posH) with
                    | false =>
                      refine walk ?_
                      exact l_end trivial (by decide) rfl rfl rfl rfl rfl
                    | true =>
                      refine walk ?_
                      refine l_callG [] (c_pos) rfl rfl rfl rfl rfl rfl rfl rfl rfl (by decide) rfl rfl rfl rfl rfl ?_
                      refine walk ?_
                      cases e10 : (x.pos.eq y.pos) with
                      | false =>
                        refine walk ?_
                        exact l_end trivial (by decide) rfl rfl rfl rfl rfl
                      | true =>
                        refine walk ?_
                        cases e11 : (x.negH == y.negH) with
                        | false =>
                          refine walk ?_
                          exact l_end trivial (by decide) rfl rfl rfl rfl rfl
                        | true =>
                          refine walk ?_
                          refine l_callG [] (c_neg) rfl rfl rfl rfl rfl rfl rfl rfl rfl (by decide) rfl rfl rfl rfl rfl ?_
                          refine walk ?_
                          cases e12 : (x.neg.eq y.neg) with
                          | false =>
                            refine walk ?_
                            exact l_end trivial (by decide) rfl rfl rfl rfl rfl
                          | true =>
                            refine walk ?_
                            refine l_callG [] (c_exs) rfl rfl rfl rfl rfl rfl rfl rfl rfl (by decide) rfl rfl rfl rfl rfl ?_
                            refine walk ?_
                            cases e13 : (Em.eqs x.exs y.exs) with
                            | false =>
                              refine walk ?_
                              exact l_end trivial (by decide) rfl rfl rfl rfl rfl
                            | true =>
                              refine walk ?_
                              rw [ibeq x.flags y.flags]
                              cases e14 : (x.flags == y.flags) with
                              | false =>
                                refine walk ?_
                                exact l_end trivial (by decide) rfl rfl rfl rfl rfl
                              | true =>
                                refine walk ?_
                                rw [ibeq x.thr y.thr]
                                cases e15 : (x.thr == y.thr) with
                                | false =>
                                  refine walk ?_
                                  exact l_end trivial (by decide) rfl rfl rfl rfl rfl
                                | true =>
                                  refine walk ?_
                                  exact l_end trivial (by decide) rfl rfl rfl rfl rfl
end Go.Proofs.YtcinfkbdmjnjlaaGreatDoor
