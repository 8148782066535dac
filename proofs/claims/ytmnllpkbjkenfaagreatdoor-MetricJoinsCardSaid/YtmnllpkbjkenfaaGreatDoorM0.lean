/- Metrics: of two that are read, one behind the other, it is read too, and has all that stands in lists twice. -/
import Derived.Test.YtmnllpkbjkenfaaGreatDoorML
set_option linter.unusedSimpArgs false
set_option linter.unusedVariables false
set_option maxRecDepth 100000
namespace Go.Proofs.YtmnllpkbjkenfaaGreatDoor
open Go Go.Abs
variable (B : Fr)
theorem MetricJoins_law (hB : BOk B) (s : List UInt8) (hs : s.length ≤ 9223372036854775807) (t : List UInt8) (ht : t.length ≤ 9223372036854775807) (d : Int) (hd1 : -9223372036854775808 ≤ d) (hd2 : d < 9223372036854775808) :
  CallsA (cx B) 3 [sT s, sT t, .d (.int .i64 d)] [] (.d (.bool true)) [] := by
 have hf := firstMe_calls B hB
 refine k'2 (X := cx B) (fn := Tryz.f3) Tryz.func3 rfl rfl rfl rfl rfl 0 [] rfl rfl ?_
 refine walk ?_
 refine k'1 [] (hf) rfl rfl rfl rfl rfl rfl rfl (by decide) rfl rfl rfl rfl rfl ?_
 refine walk ?_
 by_cases h1 : s.length > 3000
 ·rw [show decide ((s.length : Int) > 3000) = true from decide_eq_true (by omega)]
  refine walk ?_
  refine k'1 [] (hf) rfl rfl rfl rfl rfl rfl rfl (by decide) rfl rfl rfl rfl rfl ?_
  refine walk ?_
  exact k'3 trivial (by decide) rfl rfl rfl rfl rfl
 rw [show decide ((s.length : Int) > 3000) = false from decide_eq_false (by omega)]
 refine walk ?_
 by_cases h2 : t.length > 3000
 ·rw [show decide ((t.length : Int) > 3000) = true from decide_eq_true (by omega)]
  refine walk ?_
  refine k'1 [] (hf) rfl rfl rfl rfl rfl rfl rfl (by decide) rfl rfl rfl rfl rfl ?_
  refine walk ?_
  exact k'3 trivial (by decide) rfl rfl rfl rfl rfl
 rw [show decide ((t.length : Int) > 3000) = false from decide_eq_false (by omega)]
 refine walk ?_
 have b1 : s.length < big := by unfold big; omega
 have b2 : t.length < big := by unfold big; omega
 have b3 : (s ++ t).length < big := by unfold big; simp; omega
 cases hx : okMe s d with
 | none =>
  obtain ⟨T, x, c1⟩ := Me_none B hB b1 hd1 hd2 hx
  obtain ⟨y2, x2, c2⟩ := Me_any B hB b2 hd1 hd2
  obtain ⟨y3, x3, c3⟩ := Me_any B hB b3 hd1 hd2
  refine k'1 [] (c1) rfl rfl rfl rfl rfl rfl rfl (by decide) rfl rfl rfl rfl rfl ?_
  refine walk ?_
  refine k'1 [] (c2) rfl rfl rfl rfl rfl rfl rfl (by decide) rfl rfl rfl rfl rfl ?_
  refine walk ?_
  refine k'4 (.addStr (a := s) (b := t) rfl rfl rfl (by omega)) rfl rfl ?_
  refine walk ?_
  refine k'1 [] (c3) rfl rfl rfl rfl rfl rfl rfl (by decide) rfl rfl rfl rfl rfl ?_
  refine walk ?_
  refine k'1 [] (hf) rfl rfl rfl rfl rfl rfl rfl (by decide) rfl rfl rfl rfl rfl ?_
  refine walk ?_
  exact k'3 trivial (by decide) rfl rfl rfl rfl rfl
 | some x =>
  have c1 := Me_some B hB b1 hd1 hd2 hx
  cases hy : okMe t d with
  | none =>
   obtain ⟨T, y, c2⟩ := Me_none B hB b2 hd1 hd2 hy
   obtain ⟨y3, x3, c3⟩ := Me_any B hB b3 hd1 hd2
   refine k'1 [] (c1) rfl rfl rfl rfl rfl rfl rfl (by decide) rfl rfl rfl rfl rfl ?_
   refine walk ?_
   refine k'1 [] (c2) rfl rfl rfl rfl rfl rfl rfl (by decide) rfl rfl rfl rfl rfl ?_
   refine walk ?_
   refine k'4 (.addStr (a := s) (b := t) rfl rfl rfl (by omega)) rfl rfl ?_
   refine walk ?_
   refine k'1 [] (c3) rfl rfl rfl rfl rfl rfl rfl (by decide) rfl rfl rfl rfl rfl ?_
   refine walk ?_
   refine k'1 [] (hf) rfl rfl rfl rfl rfl rfl rfl (by decide) rfl rfl rfl rfl rfl ?_
   refine walk ?_
   exact k'3 trivial (by decide) rfl rfl rfl rfl rfl
  | some y =>
   have c2 := Me_some B hB b2 hd1 hd2 hy
   obtain ⟨z, hz, e1, e_mets, e_k0, e_k1⟩ := okMe_app hx hy
   have c3 := Me_some B hB b3 hd1 hd2 hz
   obtain ⟨-, wx, l1⟩ := Me_told _ _ _ hx
   obtain ⟨my, wy, l2⟩ := Me_told _ _ _ hy
   obtain ⟨-, wz, l3⟩ := Me_told _ _ _ hz
   rw [List.length_append] at l3
   unfold Me.sz at l1 l2 l3
   have n1 := In.cnt x.dat
   have n3 := In.cnt z.dat
   have p1 := k'3d B x x.d (by unfold Me.points; omega) (Me.d_R x)
   have p3 := k'3d B z z.d (by unfold Me.points; omega) (Me.d_R z)
   have q_mets : ∀ a : List Kv, (Kv.ds a).length = a.length := fun a => by rw [Kv.ds_map, List.length_map]
   have g1_mets := Kv.len_szs x.mets
   have g2_mets := Kv.len_szs y.mets
   refine k'1 [] (c1) rfl rfl rfl rfl rfl rfl rfl (by decide) rfl rfl rfl rfl rfl ?_
   refine walk ?_
   refine k'1 [] (c2) rfl rfl rfl rfl rfl rfl rfl (by decide) rfl rfl rfl rfl rfl ?_
   refine walk ?_
   refine k'4 (.addStr (a := s) (b := t) rfl rfl rfl (by omega)) rfl rfl ?_
   refine walk ?_
   refine k'1 [] (c3) rfl rfl rfl rfl rfl rfl rfl (by decide) rfl rfl rfl rfl rfl ?_
   refine walk ?_
   refine k'7 [] (hf) rfl rfl rfl rfl rfl rfl (by decide) rfl rfl rfl rfl rfl rfl ?_
   refine walk ?_
   refine x_step (.addStr (a := x.u) (b := y.u) rfl rfl rfl (by omega)) rfl rfl ?_
   (repeat ((with_reducible refine k'i ?_); first | refine k'15 rfl rfl ?_ | refine k't rfl rfl rfl ?_ | refine k'14 rfl rfl rfl rfl rfl rfl ?_))
   rw [show (z.u == x.u ++ y.u) = true by simp [e1]]
   (repeat ((with_reducible refine k'i ?_); first | refine k'15 rfl rfl ?_ | refine k't rfl rfl rfl ?_ | refine k'14 rfl rfl rfl rfl rfl rfl ?_))
   have hz_mets : ((Kv.ds z.mets).length : Int) = IntKind.i64.wrap ((Kv.ds x.mets).length + (Kv.ds y.mets).length) := by
    rw [q_mets, q_mets, q_mets, wrapI (by omega) (by omega), e_mets]; simp
   rw [hz_mets]
   rw [show (IntKind.i64.wrap ((Kv.ds x.mets).length + (Kv.ds y.mets).length) == IntKind.i64.wrap ((Kv.ds x.mets).length + (Kv.ds y.mets).length)) = true by simp]
   (repeat ((with_reducible refine k'i ?_); first | refine k'15 rfl rfl ?_ | refine k't rfl rfl rfl ?_ | refine k'14 rfl rfl rfl rfl rfl rfl ?_))
   have hk : 0 ≤ y.kind := by unfold Me.may mayOn at my; simp at my; omega
   by_cases hy0 : y.kind = 0
   ·obtain ⟨k1, k2⟩ := e_k0 hy0
    rw [show (y.kind == 0) = true by simp [hy0]]
    (repeat ((with_reducible refine k'i ?_); first | refine k'15 rfl rfl ?_ | refine k't rfl rfl rfl ?_ | refine k'14 rfl rfl rfl rfl rfl rfl ?_))
    rw [show (z.kind == x.kind) = true by simp [k1]]
    (repeat ((with_reducible refine k'i ?_); first | refine k'15 rfl rfl ?_ | refine k't rfl rfl rfl ?_ | refine k'14 rfl rfl rfl rfl rfl rfl ?_))
    refine k'7 [] (p3) rfl rfl rfl rfl rfl rfl (by decide) rfl rfl rfl rfl rfl rfl ?_
    (repeat ((with_reducible refine k'i ?_); first | refine k'15 rfl rfl ?_ | refine k't rfl rfl rfl ?_ | refine k'14 rfl rfl rfl rfl rfl rfl ?_))
    refine k'7 [] (p1) rfl rfl rfl rfl rfl rfl (by decide) rfl rfl rfl rfl rfl rfl ?_
    (repeat ((with_reducible refine k'i ?_); first | refine k'15 rfl rfl ?_ | refine k't rfl rfl rfl ?_ | refine k'14 rfl rfl rfl rfl rfl rfl ?_))
    rw [show ((z.points : Int) == (x.points : Int)) = true by unfold Me.points; simp [k2]]
    (repeat ((with_reducible refine k'i ?_); first | refine k'15 rfl rfl ?_ | refine k't rfl rfl rfl ?_ | refine k'14 rfl rfl rfl rfl rfl rfl ?_))
    refine walk ?_
    exact k'3 trivial (by decide) rfl rfl rfl rfl rfl
   ·have k1 := e_k1 hy0
    rw [show (y.kind == 0) = false by simp [hy0]]
    (repeat ((with_reducible refine k'i ?_); first | refine k'15 rfl rfl ?_ | refine k't rfl rfl rfl ?_ | refine k'14 rfl rfl rfl rfl rfl rfl ?_))
    rw [show decide (y.kind > 0) = true from decide_eq_true (by omega)]
    (repeat ((with_reducible refine k'i ?_); first | refine k'15 rfl rfl ?_ | refine k't rfl rfl rfl ?_ | refine k'14 rfl rfl rfl rfl rfl rfl ?_))
    rw [show (z.kind == y.kind) = true by simp [k1]]
    (repeat ((with_reducible refine k'i ?_); first | refine k'15 rfl rfl ?_ | refine k't rfl rfl rfl ?_ | refine k'14 rfl rfl rfl rfl rfl rfl ?_))
    refine walk ?_
    exact k'3 trivial (by decide) rfl rfl rfl rfl rfl
end Go.Proofs.YtmnllpkbjkenfaaGreatDoor
