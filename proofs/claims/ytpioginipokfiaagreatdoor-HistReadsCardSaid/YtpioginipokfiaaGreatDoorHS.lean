/- Hist: the reference tells if two are alike. -/
import Derived.Test.YtpioginipokfiaaGreatDoorES
import Derived.Test.YtpioginipokfiaaGreatDoorHW
set_option linter.unusedSimpArgs false
set_option linter.unusedVariables false
set_option maxRecDepth 100000
namespace Go.Proofs.YtpioginipokfiaaGreatDoor
open Go Go.Abs
variable (B : Fr)
theorem refHi_calls (x y : Hi) (xa ya : D) (hbig : x.sz < big) (hx : x.R xa) (hy : y.R ya) : k'1 (cx B) 11 [.d xa, .d ya] [] (.d (.bool (x.eq y))) [] := by
 obtain ⟨z_attrs, l_attrs, z_counts, z_bounds, z_exs, l_exs, rfl, r_attrs, r_exs⟩ := hx
 obtain ⟨y_attrs, m_attrs, y_counts, y_bounds, y_exs, m_exs, rfl, s_attrs, s_exs⟩ := hy
 unfold Hi.sz at hbig
 have c_attrs := refKeys_calls B (a := x.attrs) (b := y.attrs) z_attrs y_attrs (by omega) r_attrs s_attrs
 have c_exs := refEms_calls B (a := x.exs) (b := y.exs) z_exs y_exs (by omega) r_exs s_exs
 have c_sum := k'38 B x.sumH x.sum y.sumH y.sum
 have c_min := k'38 B x.minH x.min y.minH y.min
 have c_max := k'38 B x.maxH x.max y.maxH y.max
 have c_counts := NumsZ B z_counts y_counts x.counts y.counts (by unfold big at hbig; omega)
 have c_bounds := NumsZ B z_bounds y_bounds x.bounds y.bounds (by unfold big at hbig; omega)
 rw [show x.eq y = ((Kv.eqs x.attrs y.attrs) && (x.start == y.start) && (x.time == y.time) && (x.count == y.count) && (x.sumH == y.sumH && x.sum == y.sum) && (x.minH == y.minH && x.min == y.min) && (x.maxH == y.maxH && x.max == y.max) && (x.counts == y.counts) && (x.bounds == y.bounds) && (Em.eqs x.exs y.exs) && (x.flags == y.flags) && (x.u == y.u)) by unfold Hi.eq; ac_rfl]
 refine l_bw Tryz.func11 0 [] ?_
 refine l_cw [] (c_attrs) rfl rfl rfl ?_
 cases e0 : (Kv.eqs x.attrs y.attrs)
 ·exact Z
 refine Y ?_
 rw [ibeq x.start y.start]
 cases e1 : (x.start == y.start)
 ·exact Z
 refine Y ?_
 rw [ibeq x.time y.time]
 cases e2 : (x.time == y.time)
 ·exact Z
 refine Y ?_
 rw [ibeq x.count y.count]
 cases e3 : (x.count == y.count)
 ·exact Z
 refine Y ?_
 refine k'3g [] (c_sum) rfl rfl rfl rfl rfl ?_
 cases e4 : (x.sumH == y.sumH && x.sum == y.sum)
 ·exact Z
 refine Y ?_
 refine k'3g [] (c_min) rfl rfl rfl rfl rfl ?_
 cases e5 : (x.minH == y.minH && x.min == y.min)
 ·exact Z
 refine Y ?_
 refine k'3g [] (c_max) rfl rfl rfl rfl rfl ?_
 cases e6 : (x.maxH == y.maxH && x.max == y.max)
 ·exact Z
 refine Y ?_
 refine k'3g [] (c_counts) rfl rfl rfl rfl rfl ?_
 cases e7 : (x.counts == y.counts)
 ·exact Z
 refine Y ?_
 refine k'3g [] (c_bounds) rfl rfl rfl rfl rfl ?_
 cases e8 : (x.bounds == y.bounds)
 ·exact Z
 refine Y ?_
 refine k'3g [] (c_exs) rfl rfl rfl rfl rfl ?_
 cases e9 : (Em.eqs x.exs y.exs)
 ·exact Z
 refine Y ?_
 rw [ibeq x.flags y.flags]
 cases e10 : (x.flags == y.flags)
 ·exact Z
 exact Z
