/- Metrics: how many points; of two, one behind the other. -/
import Derived.Test.YtmnllpkbjkenfaaGreatDoorMK
import Derived.Test.YtmnllpkbjkenfaaGreatDoorMV
set_option linter.unusedSimpArgs false
set_option linter.unusedVariables false
set_option maxRecDepth 100000
namespace Go.Proofs.YtmnllpkbjkenfaaGreatDoor
open Go Go.Abs
variable (B : Fr)
theorem refPoints_calls (x : Me) (xa : D) (hb : x.points < 4611686018427387904) (hx : x.R xa) : k'1 (cx B) 16 [.d xa] [] (iT x.points) [] := by
 obtain ⟨z_nbs, l_nbs, z_his, l_his, z_ehs, l_ehs, z_sus, l_sus, z_mets, l_mets, rfl, r_nbs, r_his, r_ehs, r_sus, r_mets⟩ := hx
 unfold Me.points at hb ⊢
 refine k'2 (X := cx B) (fn := Tryz.f16) Tryz.func16 rfl rfl rfl rfl rfl 0 [] rfl rfl ?_
 refine Y ?_
 rw [r_nbs.1, r_his.1, r_ehs.1, r_sus.1]
 rw [show IntKind.i64.wrap ((x.dat.nbs.length : Int) + (x.dat.his.length : Int)) = ((x.dat.nbs.length + x.dat.his.length : Nat) : Int) by rw [k'1m (by omega) (by omega)]; omega]
 rw [show IntKind.i64.wrap (((x.dat.nbs.length + x.dat.his.length : Nat) : Int) + (x.dat.ehs.length : Int)) = ((x.dat.nbs.length + x.dat.his.length + x.dat.ehs.length : Nat) : Int) by rw [k'1m (by omega) (by omega)]; omega]
 rw [show IntKind.i64.wrap (((x.dat.nbs.length + x.dat.his.length + x.dat.ehs.length : Nat) : Int) + (x.dat.sus.length : Int)) = ((x.dat.nbs.length + x.dat.his.length + x.dat.ehs.length + x.dat.sus.length : Nat) : Int) by rw [k'1m (by omega) (by omega)]; omega]
 exact Z
theorem room6 {x : Me} (h : ¬ k'3t x 6000 < 0) : x.sz < 1000000 := by
 obtain ⟨a, b⟩ := roomMe_ok x 6000 (by omega)
 have := (b (by omega)).1 (by omega)
 omega
set_option maxHeartbeats 8000000 in
theorem MetricPoints_law (hB : BOk B) (x : Me) (xa : D) (hR : x.R xa) (hp : x.ln ∧ x.wf) (y : Me) (ya : D) (hS : y.R ya) (hq : y.ln ∧ y.wf) (d : Int) (hd1 : -9223372036854775808 ≤ d) (hd2 : d < 9223372036854775808) :
  k'1 (cx B) 4 [.d xa, .d ya, .d (.int .i64 d)] [] (.d (.bool true)) [] := by
 have hf := firstMe_calls B hB
 have hr := RoomMe_calls B x xa 6000 hp.1 hR (by omega) (by omega)
 have hr' := RoomMe_calls B y ya 6000 hq.1 hS (by omega) (by omega)
 have mar1 := fun h => k'2m B x _ d h hp.2 hR hd1 hd2
 have mar2 := fun h => k'2m B y _ d h hq.2 hS hd1 hd2
 have pt1 := fun h => k'3b B x _ h hR
 have pt2 := fun h => k'3b B y _ h hS
 have rp1 := fun h => refPoints_calls B x _ h hR
 have hR0 := hR
 have hS0 := hS
 obtain ⟨z_nbs, l_nbs, z_his, l_his, z_ehs, l_ehs, z_sus, l_sus, z_mets, l_mets, rfl, -⟩ := hR0
 obtain ⟨y_nbs, m_nbs, y_his, m_his, y_ehs, m_ehs, y_sus, m_sus, y_mets, m_mets, rfl, -⟩ := hS0
 refine k'2 (X := cx B) (fn := Tryz.f4) Tryz.func4 rfl rfl rfl rfl rfl 0 [] rfl rfl ?_
 refine Y ?_
 refine l_cw [] (hf) rfl rfl rfl ?_
 refine k'17 [] (hr) rfl rfl rfl ?_
 (repeat ((with_reducible refine k'e ?_); first | refine k'16 rfl rfl ?_ | refine k'w rfl rfl rfl ?_ | refine k'14 rfl rfl rfl rfl rfl rfl ?_))
 by_cases h1 : k'3t x 6000 < 0
 ·rw [show decide (k'3t x 6000 < 0) = true from decide_eq_true h1]
  (repeat ((with_reducible refine k'e ?_); first | refine k'16 rfl rfl ?_ | refine k'w rfl rfl rfl ?_ | refine k'14 rfl rfl rfl rfl rfl rfl ?_))
  refine Y ?_
  refine l_cw [] (hr) rfl rfl rfl ?_
  rw [show decide (k'3t x 6000 < 0) = true from decide_eq_true h1]
  refine Y ?_
  refine k'c [] (hf) rfl rfl rfl rfl rfl ?_
  exact Z
 rw [show decide (k'3t x 6000 < 0) = false from decide_eq_false h1]
 (repeat ((with_reducible refine k'e ?_); first | refine k'16 rfl rfl ?_ | refine k'w rfl rfl rfl ?_ | refine k'14 rfl rfl rfl rfl rfl rfl ?_))
 refine k'17 [] (hr') rfl rfl rfl ?_
 (repeat ((with_reducible refine k'e ?_); first | refine k'16 rfl rfl ?_ | refine k'w rfl rfl rfl ?_ | refine k'14 rfl rfl rfl rfl rfl rfl ?_))
 by_cases h2 : k'3t y 6000 < 0
 ·rw [show decide (k'3t y 6000 < 0) = true from decide_eq_true h2]
  (repeat ((with_reducible refine k'e ?_); first | refine k'16 rfl rfl ?_ | refine k'w rfl rfl rfl ?_ | refine k'14 rfl rfl rfl rfl rfl rfl ?_))
  refine Y ?_
  refine l_cw [] (hr) rfl rfl rfl ?_
  rw [show decide (k'3t x 6000 < 0) = false from decide_eq_false h1]
  refine Y ?_
  refine k'2p [] (hr') rfl rfl rfl rfl rfl ?_
  rw [show decide (k'3t y 6000 < 0) = true from decide_eq_true h2]
  refine Y ?_
  refine k'c [] (hf) rfl rfl rfl rfl rfl ?_
  exact Z
 rw [show decide (k'3t y 6000 < 0) = false from decide_eq_false h2]
 (repeat ((with_reducible refine k'e ?_); first | refine k'16 rfl rfl ?_ | refine k'w rfl rfl rfl ?_ | refine k'14 rfl rfl rfl rfl rfl rfl ?_))
 have s1 := room6 h1
 have s2 := room6 h2
 have q1 := In.cnt x.dat
 have q2 := In.cnt y.dat
 have u1 : x.dat.u.length ≤ x.dat.sz := by unfold In.sz; omega
 have u2 : y.dat.u.length ≤ y.dat.sz := by unfold In.sz; omega
 have s1' := s1
 have s2' := s2
 unfold Me.sz at s1' s2'
 have p1 : x.points < 4611686018427387904 := by unfold Me.points; omega
 have p2 : y.points < 4611686018427387904 := by unfold Me.points; omega
 replace pt1 := pt1 p1
 replace pt2 := pt2 p2
 replace rp1 := rp1 p1
 have b1 : x.sz < big := by unfold big; omega
 have b2 : y.sz < big := by unfold big; omega
 replace mar1 := mar1 b1
 replace mar2 := mar2 b2
 refine k'17 [] (pt1) rfl rfl rfl ?_
 (repeat ((with_reducible refine k'e ?_); first | refine k'16 rfl rfl ?_ | refine k'w rfl rfl rfl ?_ | refine k'14 rfl rfl rfl rfl rfl rfl ?_))
 refine k'17 [] (rp1) rfl rfl rfl ?_
 (repeat ((with_reducible refine k'e ?_); first | refine k'16 rfl rfl ?_ | refine k'w rfl rfl rfl ?_ | refine k'14 rfl rfl rfl rfl rfl rfl ?_))
 rw [show ((x.points : Int) != (x.points : Int)) = false by simp]
 (repeat ((with_reducible refine k'e ?_); first | refine k'16 rfl rfl ?_ | refine k'w rfl rfl rfl ?_ | refine k'14 rfl rfl rfl rfl rfl rfl ?_))
 refine Y ?_
 have hml1 := x.mar_len
 have hml2 := y.mar_len
 have hkx : x.kind = (x.kind : Int) := rfl
 cases m1 : x.may d
 ·rw [m1, if_neg (by simp)] at mar1
  refine l_cw [] (mar1) rfl rfl rfl ?_
  cases m2 : y.may d
  ·rw [m2, if_neg (by simp)] at mar2
   refine l_cw [] (mar2) rfl rfl rfl ?_
   refine k'3 [] (hf) rfl rfl rfl ?_
   exact Z
  rw [m2, if_pos rfl] at mar2
  refine l_cw [] (mar2) rfl rfl rfl ?_
  refine k'3 [] (hf) rfl rfl rfl ?_
  exact Z
 rw [m1, if_pos rfl] at mar1
 refine l_cw [] (mar1) rfl rfl rfl ?_
 cases m2 : y.may d
 ·rw [m2, if_neg (by simp)] at mar2
  refine l_cw [] (mar2) rfl rfl rfl ?_
  refine k'3 [] (hf) rfl rfl rfl ?_
  exact Z
 rw [m2, if_pos rfl] at mar2
 refine l_cw [] (mar2) rfl rfl rfl ?_
 by_cases hk : x.kind = y.kind
 ·rw [show (x.kind != y.kind) = false by simp [hk]]
  refine Y ?_
  obtain ⟨w, hw, e1, e2, e3⟩ := Me_pair b1 hp.2 m1 b2 hq.2 m2 hk
  have c3 := Me_some B hB (by simp; unfold big; omega) hd1 hd2 hw
  have pt3 := k'3b B w _ (by rw [e1]; unfold Me.points; omega) (Me.d_R w)
  refine k'6 (.addStr (a := x.mar) (b := y.mar) rfl rfl rfl (by omega)) rfl rfl ?_
  refine Y ?_
  refine l_cw [] (c3) rfl rfl rfl ?_
  refine k'17 [] (hf) rfl rfl rfl ?_
  (repeat ((with_reducible refine k'e ?_); first | refine k'16 rfl rfl ?_ | refine k'w rfl rfl rfl ?_ | refine k'14 rfl rfl rfl rfl rfl rfl ?_))
  refine k'17 [] (pt3) rfl rfl rfl ?_
  (repeat ((with_reducible refine k'e ?_); first | refine k'16 rfl rfl ?_ | refine k'w rfl rfl rfl ?_ | refine k'14 rfl rfl rfl rfl rfl rfl ?_))
  refine k'17 [] (pt1) rfl rfl rfl ?_
  (repeat ((with_reducible refine k'e ?_); first | refine k'16 rfl rfl ?_ | refine k'w rfl rfl rfl ?_ | refine k'14 rfl rfl rfl rfl rfl rfl ?_))
  refine k'17 [] (pt2) rfl rfl rfl ?_
  (repeat ((with_reducible refine k'e ?_); first | refine k'16 rfl rfl ?_ | refine k'w rfl rfl rfl ?_ | refine k'14 rfl rfl rfl rfl rfl rfl ?_))
  rw [show ((w.points : Int) == IntKind.i64.wrap ((x.points : Int) + (y.points : Int))) = true by rw [k'1m (by omega) (by omega), e1]; simp]
  (repeat ((with_reducible refine k'e ?_); first | refine k'16 rfl rfl ?_ | refine k'w rfl rfl rfl ?_ | refine k'14 rfl rfl rfl rfl rfl rfl ?_))
  refine x_step (.addStr (a := x.dat.u) (b := y.dat.u) rfl rfl rfl (by omega)) rfl rfl ?_
  (repeat ((with_reducible refine k'e ?_); first | refine k'16 rfl rfl ?_ | refine k'w rfl rfl rfl ?_ | refine k'14 rfl rfl rfl rfl rfl rfl ?_))
  rw [show (w.dat.u == x.dat.u ++ y.dat.u) = true by simp [e2]]
  (repeat ((with_reducible refine k'e ?_); first | refine k'16 rfl rfl ?_ | refine k'w rfl rfl rfl ?_ | refine k'14 rfl rfl rfl rfl rfl rfl ?_))
  cases n1 : x.dat.mono
  rotate_left
  ·rw [n1] at e3
   rw [show w.dat.mono = true from e3]
   (repeat ((with_reducible refine k'e ?_); first | refine k'16 rfl rfl ?_ | refine k'w rfl rfl rfl ?_ | refine k'14 rfl rfl rfl rfl rfl rfl ?_))
   exact Z
  rw [n1] at e3
  rw [show w.dat.mono = y.dat.mono from e3]
  (repeat ((with_reducible refine k'e ?_); first | refine k'16 rfl rfl ?_ | refine k'w rfl rfl rfl ?_ | refine k'14 rfl rfl rfl rfl rfl rfl ?_))
  rw [show (y.dat.mono == y.dat.mono) = true by simp]
  (repeat ((with_reducible refine k'e ?_); first | refine k'16 rfl rfl ?_ | refine k'w rfl rfl rfl ?_ | refine k'14 rfl rfl rfl rfl rfl rfl ?_))
  exact Z
 ·rw [show (x.kind != y.kind) = true by simp [hk]]
  refine Y ?_
  refine k'3 [] (hf) rfl rfl rfl ?_
  exact Z
