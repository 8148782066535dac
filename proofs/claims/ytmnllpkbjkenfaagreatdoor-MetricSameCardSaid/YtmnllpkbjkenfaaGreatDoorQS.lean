/- Number: the reference tells if two are alike. -/
import Derived.Test.YtmnllpkbjkenfaaGreatDoorES
import Derived.Test.YtmnllpkbjkenfaaGreatDoorNW
import Derived.Test.YtmnllpkbjkenfaaGreatDoorHW
import Derived.Test.YtmnllpkbjkenfaaGreatDoorQW
set_option linter.unusedSimpArgs false
set_option linter.unusedVariables false
set_option maxRecDepth 100000
namespace Go.Proofs.YtmnllpkbjkenfaaGreatDoor
open Go Go.Abs
variable (B : Fr)
theorem refNb_calls (x y : Nb) (xa ya : D) (hbig : x.sz < big) (hx : x.R xa) (hy : y.R ya) : k'1 (cx B) 61 [.d xa, .d ya] [] (.d (.bool (x.eq y))) [] := by
 obtain ⟨z_attrs, l_attrs, z_exs, l_exs, rfl, r_attrs, r_exs⟩ := hx
 obtain ⟨y_attrs, m_attrs, y_exs, m_exs, rfl, s_attrs, s_exs⟩ := hy
 unfold Nb.sz at hbig
 have c_attrs := k'1r B (a := x.attrs) (b := y.attrs) z_attrs y_attrs (by omega) r_attrs s_attrs
 have c_exs := k'4g B (a := x.exs) (b := y.exs) z_exs y_exs (by omega) r_exs s_exs
 rw [show x.eq y = ((Kv.eqs x.attrs y.attrs) && (x.start == y.start) && (x.time == y.time) && (x.kind == y.kind) && (x.n == y.n) && (Em.eqs x.exs y.exs) && (x.flags == y.flags) && (x.u == y.u)) by unfold Nb.eq; ac_rfl]
 refine k'2 (X := cx B) (fn := Tryz.f61) Tryz.func61 rfl rfl rfl rfl rfl 0 [] rfl rfl ?_
 refine Y ?_
 refine l_cw [] (c_attrs) rfl rfl rfl ?_
 cases e0 : (Kv.eqs x.attrs y.attrs)
 ·exact Z
 refine Y ?_
 rw [ibeq x.start y.start]
 cases e1 : (x.start == y.start)
 ·exact Z
 refine Y ?_
 rw [ibeq x.time y.time]
 cases e2 : (x.time == y.time)
 ·exact Z
 refine Y ?_
 cases e3 : (x.kind == y.kind)
 ·exact Z
 refine Y ?_
 rw [ibeq x.n y.n]
 cases e4 : (x.n == y.n)
 ·exact Z
 refine Y ?_
 refine k'1c [] (c_exs) rfl rfl rfl rfl rfl ?_
 cases e5 : (Em.eqs x.exs y.exs)
 ·exact Z
 refine Y ?_
 rw [ibeq x.flags y.flags]
 cases e6 : (x.flags == y.flags)
 ·exact Z
 exact Z
theorem refHi_calls (x y : Hi) (xa ya : D) (hbig : x.sz < big) (hx : x.R xa) (hy : y.R ya) : k'1 (cx B) 62 [.d xa, .d ya] [] (.d (.bool (x.eq y))) [] := by
 obtain ⟨z_attrs, l_attrs, z_counts, z_bounds, z_exs, l_exs, rfl, r_attrs, r_exs⟩ := hx
 obtain ⟨y_attrs, m_attrs, y_counts, y_bounds, y_exs, m_exs, rfl, s_attrs, s_exs⟩ := hy
 unfold Hi.sz at hbig
 have c_attrs := k'1r B (a := x.attrs) (b := y.attrs) z_attrs y_attrs (by omega) r_attrs s_attrs
 have c_exs := k'4g B (a := x.exs) (b := y.exs) z_exs y_exs (by omega) r_exs s_exs
 have c_sum := k'1x B x.sumH x.sum y.sumH y.sum
 have c_min := k'1x B x.minH x.min y.minH y.min
 have c_max := k'1x B x.maxH x.max y.maxH y.max
 have c_counts := NumsZ B z_counts y_counts x.counts y.counts (by unfold big at hbig; omega)
 have c_bounds := NumsZ B z_bounds y_bounds x.bounds y.bounds (by unfold big at hbig; omega)
 rw [show x.eq y = ((Kv.eqs x.attrs y.attrs) && (x.start == y.start) && (x.time == y.time) && (x.count == y.count) && (x.sumH == y.sumH && x.sum == y.sum) && (x.minH == y.minH && x.min == y.min) && (x.maxH == y.maxH && x.max == y.max) && (x.counts == y.counts) && (x.bounds == y.bounds) && (Em.eqs x.exs y.exs) && (x.flags == y.flags) && (x.u == y.u)) by unfold Hi.eq; ac_rfl]
 refine k'2 (X := cx B) (fn := Tryz.f62) Tryz.func62 rfl rfl rfl rfl rfl 0 [] rfl rfl ?_
 refine Y ?_
 refine l_cw [] (c_attrs) rfl rfl rfl ?_
 cases e0 : (Kv.eqs x.attrs y.attrs)
 ·exact Z
 refine Y ?_
 rw [ibeq x.start y.start]
 cases e1 : (x.start == y.start)
 ·exact Z
 refine Y ?_
 rw [ibeq x.time y.time]
 cases e2 : (x.time == y.time)
 ·exact Z
 refine Y ?_
 rw [ibeq x.count y.count]
 cases e3 : (x.count == y.count)
 ·exact Z
 refine Y ?_
 refine k'1c [] (c_sum) rfl rfl rfl rfl rfl ?_
 cases e4 : (x.sumH == y.sumH && x.sum == y.sum)
 ·exact Z
 refine Y ?_
 refine k'1c [] (c_min) rfl rfl rfl rfl rfl ?_
 cases e5 : (x.minH == y.minH && x.min == y.min)
 ·exact Z
 refine Y ?_
 refine k'1c [] (c_max) rfl rfl rfl rfl rfl ?_
 cases e6 : (x.maxH == y.maxH && x.max == y.max)
 ·exact Z
 refine Y ?_
 refine k'1c [] (c_counts) rfl rfl rfl rfl rfl ?_
 cases e7 : (x.counts == y.counts)
 ·exact Z
 refine Y ?_
 refine k'1c [] (c_bounds) rfl rfl rfl rfl rfl ?_
 cases e8 : (x.bounds == y.bounds)
 ·exact Z
 refine Y ?_
 refine k'1c [] (c_exs) rfl rfl rfl rfl rfl ?_
 cases e9 : (Em.eqs x.exs y.exs)
 ·exact Z
 refine Y ?_
 rw [ibeq x.flags y.flags]
 cases e10 : (x.flags == y.flags)
 ·exact Z
 exact Z
theorem refEh_calls (x y : Eh) (xa ya : D) (hbig : x.sz < big) (hx : x.R xa) (hy : y.R ya) : k'1 (cx B) 63 [.d xa, .d ya] [] (.d (.bool (x.eq y))) [] := by
 obtain ⟨z_attrs, l_attrs, z_pos, z_neg, z_exs, l_exs, rfl, r_attrs, r_exs⟩ := hx
 obtain ⟨y_attrs, m_attrs, y_pos, y_neg, y_exs, m_exs, rfl, s_attrs, s_exs⟩ := hy
 unfold Eh.sz at hbig
 have c_attrs := k'1r B (a := x.attrs) (b := y.attrs) z_attrs y_attrs (by omega) r_attrs s_attrs
 have c_exs := k'4g B (a := x.exs) (b := y.exs) z_exs y_exs (by omega) r_exs s_exs
 have c_sum := k'1x B x.sumH x.sum y.sumH y.sum
 have c_min := k'1x B x.minH x.min y.minH y.min
 have c_max := k'1x B x.maxH x.max y.maxH y.max
 have c_pos := refBk_calls B z_pos y_pos x.pos y.pos (by unfold Bk.sz big at hbig; omega)
 have c_neg := refBk_calls B z_neg y_neg x.neg y.neg (by unfold Bk.sz big at hbig; omega)
 rw [show x.eq y = ((Kv.eqs x.attrs y.attrs) && (x.start == y.start) && (x.time == y.time) && (x.count == y.count) && (x.sumH == y.sumH && x.sum == y.sum) && (x.minH == y.minH && x.min == y.min) && (x.maxH == y.maxH && x.max == y.max) && (x.scale == y.scale) && (x.zero == y.zero) && (x.posH == y.posH) && (x.pos.eq y.pos) && (x.negH == y.negH) && (x.neg.eq y.neg) && (Em.eqs x.exs y.exs) && (x.flags == y.flags) && (x.thr == y.thr) && (x.u == y.u)) by unfold Eh.eq; ac_rfl]
 refine k'2 (X := cx B) (fn := Tryz.f63) Tryz.func63 rfl rfl rfl rfl rfl 0 [] rfl rfl ?_
 refine Y ?_
 refine l_cw [] (c_attrs) rfl rfl rfl ?_
 cases e0 : (Kv.eqs x.attrs y.attrs)
 ·exact Z
 refine Y ?_
 rw [ibeq x.start y.start]
 cases e1 : (x.start == y.start)
 ·exact Z
 refine Y ?_
 rw [ibeq x.time y.time]
 cases e2 : (x.time == y.time)
 ·exact Z
 refine Y ?_
 rw [ibeq x.count y.count]
 cases e3 : (x.count == y.count)
 ·exact Z
 refine Y ?_
 refine k'1c [] (c_sum) rfl rfl rfl rfl rfl ?_
 cases e4 : (x.sumH == y.sumH && x.sum == y.sum)
 ·exact Z
 refine Y ?_
 refine k'1c [] (c_min) rfl rfl rfl rfl rfl ?_
 cases e5 : (x.minH == y.minH && x.min == y.min)
 ·exact Z
 refine Y ?_
 refine k'1c [] (c_max) rfl rfl rfl rfl rfl ?_
 cases e6 : (x.maxH == y.maxH && x.max == y.max)
 ·exact Z
 refine Y ?_
 cases e7 : (x.scale == y.scale)
 ·exact Z
 refine Y ?_
 rw [ibeq x.zero y.zero]
 cases e8 : (x.zero == y.zero)
 ·exact Z
 refine Y ?_
 cases e9 : (x.posH == y.posH)
 ·exact Z
 refine Y ?_
 refine k'1c [] (c_pos) rfl rfl rfl rfl rfl ?_
 cases e10 : (x.pos.eq y.pos)
 ·exact Z
 refine Y ?_
 cases e11 : (x.negH == y.negH)
 ·exact Z
 refine Y ?_
 refine k'1c [] (c_neg) rfl rfl rfl rfl rfl ?_
 cases e12 : (x.neg.eq y.neg)
 ·exact Z
 refine Y ?_
 refine k'1c [] (c_exs) rfl rfl rfl rfl rfl ?_
 cases e13 : (Em.eqs x.exs y.exs)
 ·exact Z
 refine Y ?_
 rw [ibeq x.flags y.flags]
 cases e14 : (x.flags == y.flags)
 ·exact Z
 refine Y ?_
 rw [ibeq x.thr y.thr]
 cases e15 : (x.thr == y.thr)
 ·exact Z
 exact Z
