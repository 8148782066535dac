/- Hist: the reference tells if two are alike. -/
import Derived.Test.YtoihfgdjmeeelaaGreatDoorES
import Derived.Test.YtoihfgdjmeeelaaGreatDoorWF
import Derived.Test.YtoihfgdjmeeelaaGreatDoorHW
set_option linter.unusedSimpArgs false
set_option linter.unusedVariables false
set_option maxRecDepth 100000
namespace Go.Proofs.YtoihfgdjmeeelaaGreatDoor
open Go Go.Abs
variable (B : Fr)
theorem refHi_calls (x y : Hi) (xa ya : D) (hbig : x.sz < big) (hx : x.R xa) (hy : y.R ya) : CallsA (cx B) 27 [.d xa, .d ya] [] (.d (.bool (x.eq y))) [] := by
  obtain ⟨z_attrs, l_attrs, z_counts, z_bounds, z_exs, l_exs, rfl, r_attrs, r_exs⟩ := hx
  obtain ⟨y_attrs, m_attrs, y_counts, y_bounds, y_exs, m_exs, rfl, s_attrs, s_exs⟩ := hy
  unfold Hi.sz at hbig
  have c_attrs := refKeys_calls B (a := x.attrs) (b := y.attrs) z_attrs y_attrs (by omega) r_attrs s_attrs
  have c_exs := refEms_calls B (a := x.exs) (b := y.exs) z_exs y_exs (by omega) r_exs s_exs
  have c_sum := refOpt_calls B x.sumH x.sum y.sumH y.sum
  have c_min := refOpt_calls B x.minH x.min y.minH y.min
  have c_max := refOpt_calls B x.maxH x.max y.maxH y.max
  have c_counts := NumsZ B z_counts y_counts x.counts y.counts (by unfold big at hbig; omega)
  have c_bounds := NumsZ B z_bounds y_bounds x.bounds y.bounds (by unfold big at hbig; omega)
  rw [show x.eq y = ((Kv.eqs x.attrs y.attrs) && (x.start == y.start) && (x.time == y.time) && (x.count == y.count) && (x.sumH == y.sumH && x.sum == y.sum) && (x.minH == y.minH && x.min == y.min) && (x.maxH == y.maxH && x.max == y.max) && (x.counts == y.counts) && (x.bounds == y.bounds) && (Em.eqs x.exs y.exs) && (x.flags == y.flags) && (x.u == y.u)) by unfold Hi.eq; ac_rfl]
  refine l_body (X := cx B) (fn := Tryz.f27) Tryz.func27 rfl rfl rfl rfl rfl 0 [] rfl rfl ?_
  refine walk ?_
  refine l_call [] (c_attrs) rfl rfl rfl rfl rfl rfl rfl (by decide) rfl rfl rfl rfl rfl ?_
  refine walk ?_
  cases e0 : (Kv.eqs x.attrs y.attrs) with
  | false =>
    refine walk ?_
    exact l_end trivial (by decide) rfl rfl rfl rfl rfl
  | true =>
    refine walk ?_
    rw [ibeq x.start y.start]
    cases e1 : (x.start == y.start) with
    | false =>
      refine walk ?_
      exact l_end trivial (by decide) rfl rfl rfl rfl rfl
    | true =>
      refine walk ?_
      rw [ibeq x.time y.time]
      cases e2 : (x.time == y.time) with
      | false =>
        refine walk ?_
        exact l_end trivial (by decide) rfl rfl rfl rfl rfl
      | true =>
        refine walk ?_
        rw [ibeq x.count y.count]
        cases e3 : (x.count == y.count) with
        | false =>
          refine walk ?_
          exact l_end trivial (by decide) rfl rfl rfl rfl rfl
        | true =>
          refine walk ?_
          refine l_callG [] (c_sum) rfl rfl rfl rfl rfl rfl rfl rfl rfl (by decide) rfl rfl rfl rfl rfl ?_
          refine walk ?_
          cases e4 : (x.sumH == y.sumH && x.sum == y.sum) with
          | false =>
            refine walk ?_
            exact l_end trivial (by decide) rfl rfl rfl rfl rfl
          | true =>
            refine walk ?_
            refine l_callG [] (c_min) rfl rfl rfl rfl rfl rfl rfl rfl rfl (by decide) rfl rfl rfl rfl rfl ?_
            refine walk ?_
            cases e5 : (x.minH == y.minH && x.min == y.min) with
            | false =>
              refine walk ?_
              exact l_end trivial (by decide) rfl rfl rfl rfl rfl
            | true =>
              refine walk ?_
              refine l_callG [] (c_max) rfl rfl rfl rfl rfl rfl rfl rfl rfl (by decide) rfl rfl rfl rfl rfl ?_
              refine walk ?_
              cases e6 : (x.maxH == y.maxH && x.max == y.max) with
              | false =>
                refine walk ?_
                exact l_end trivial (by decide) rfl rfl rfl rfl rfl
              | true =>
                refine walk ?_
                refine l_callG [] (c_counts) rfl rfl rfl rfl rfl rfl rfl rfl rfl (by decide) rfl rfl rfl rfl rfl ?_
                refine walk ?_
                cases e7 : (x.counts == y.counts) with
                | false =>
                  refine walk ?_
                  exact l_end trivial (by decide) rfl rfl rfl rfl rfl
                | true =>
                  refine walk ?_
                  refine l_callG [] (c_bounds) rfl rfl rfl rfl rfl rfl rfl rfl rfl (by decide) rfl rfl rfl rfl rfl ?_
                  refine walk ?_
                  cases e8 : (x.bounds == y.bounds) with
                  | false =>
                    refine walk ?_
                    exact l_end trivial (by decide) rfl rfl rfl rfl rfl
                  | true =>
                    refine walk ?_
                    refine l_callG [] (c_exs) rfl rfl rfl rfl rfl rfl rfl rfl rfl (by decide) rfl rfl rfl rfl rfl ?_
                    refine walk ?_
                    cases e9 : (Em.eqs x.exs y.exs) with
                    | false =>
                      refine walk ?_
                      exact l_end trivial (by decide) rfl rfl rfl rfl rfl
                    | true =>
                      refine walk ?_
                      rw [ibeq x.flags y.flags]
                      cases e10 : (x.flags == y.flags) with
                      | false =>
                        refine walk ?_
                        exact l_end trivial (by decide) rfl rfl rfl rfl rfl
                      | true =>
                        refine walk ?_
                        exact l_end trivial (by decide) rfl rfl rfl rfl rfl
end Go.Proofs.YtoihfgdjmeeelaaGreatDoor
