/- Hi: of two that are read, one behind the other, it is read too, and has all that stands in lists twice. -/
import Derived.Test.YtoihfgdjmeeelaaGreatDoorHL
set_option linter.unusedSimpArgs false
set_option linter.unusedVariables false
set_option maxRecDepth 100000
namespace Go.Proofs.YtoihfgdjmeeelaaGreatDoor
open Go Go.Abs
variable (B : Fr)
theorem HistJoins_law (hB : BOk B) (s : List UInt8) (hs : s.length ≤ 9223372036854775807) (t : List UInt8) (ht : t.length ≤ 9223372036854775807) (d : Int) (hd1 : -9223372036854775808 ≤ d) (hd2 : d < 9223372036854775808) :
    CallsA (cx B) 5 [sT s, sT t, .d (.int .i64 d)] [] (.d (.bool true)) [] := by
  have hf := firstHi_calls B hB
  refine l_body (X := cx B) (fn := Tryz.f5) Tryz.func5 rfl rfl rfl rfl rfl 0 [] rfl rfl ?_
  refine walk ?_
  refine l_call [] (hf) rfl rfl rfl rfl rfl rfl rfl (by decide) rfl rfl rfl rfl rfl ?_
  refine walk ?_
  by_cases h1 : s.length > 3000
  · rw [show decide ((s.length : Int) > 3000) = true from decide_eq_true (by omega)]
    refine walk ?_
    refine l_call [] (hf) rfl rfl rfl rfl rfl rfl rfl (by decide) rfl rfl rfl rfl rfl ?_
    refine walk ?_
    exact l_end trivial (by decide) rfl rfl rfl rfl rfl
  rw [show decide ((s.length : Int) > 3000) = false from decide_eq_false (by omega)]
  refine walk ?_
  by_cases h2 : t.length > 3000
  · rw [show decide ((t.length : Int) > 3000) = true from decide_eq_true (by omega)]
    refine walk ?_
    refine l_call [] (hf) rfl rfl rfl rfl rfl rfl rfl (by decide) rfl rfl rfl rfl rfl ?_
    refine walk ?_
    exact l_end trivial (by decide) rfl rfl rfl rfl rfl
  rw [show decide ((t.length : Int) > 3000) = false from decide_eq_false (by omega)]
  refine walk ?_
  have b1 : s.length < big := by unfold big; omega
  have b2 : t.length < big := by unfold big; omega
  have b3 : (s ++ t).length < big := by unfold big; simp; omega
  cases hx : okHi s d with
  | none =>
    obtain ⟨T, x, c1⟩ := Hi_none B hB b1 hd1 hd2 hx
    obtain ⟨y2, x2, c2⟩ := Hi_any B hB b2 hd1 hd2
    obtain ⟨y3, x3, c3⟩ := Hi_any B hB b3 hd1 hd2
    refine l_call [] (c1) rfl rfl rfl rfl rfl rfl rfl (by decide) rfl rfl rfl rfl rfl ?_
    refine walk ?_
    refine l_call [] (c2) rfl rfl rfl rfl rfl rfl rfl (by decide) rfl rfl rfl rfl rfl ?_
    refine walk ?_
    refine l_step (.addStr (a := s) (b := t) rfl rfl rfl (by omega)) rfl rfl ?_
    refine walk ?_
    refine l_call [] (c3) rfl rfl rfl rfl rfl rfl rfl (by decide) rfl rfl rfl rfl rfl ?_
    refine walk ?_
    refine l_call [] (hf) rfl rfl rfl rfl rfl rfl rfl (by decide) rfl rfl rfl rfl rfl ?_
    refine walk ?_
    exact l_end trivial (by decide) rfl rfl rfl rfl rfl
  | some x =>
    have c1 := Hi_some B hB b1 hd1 hd2 hx
    cases hy : okHi t d with
    | none =>
      obtain ⟨T, y, c2⟩ := Hi_none B hB b2 hd1 hd2 hy
      obtain ⟨y3, x3, c3⟩ := Hi_any B hB b3 hd1 hd2
      refine l_call [] (c1) rfl rfl rfl rfl rfl rfl rfl (by decide) rfl rfl rfl rfl rfl ?_
      refine walk ?_
      refine l_call [] (c2) rfl rfl rfl rfl rfl rfl rfl (by decide) rfl rfl rfl rfl rfl ?_
      refine walk ?_
      refine l_step (.addStr (a := s) (b := t) rfl rfl rfl (by omega)) rfl rfl ?_
      refine walk ?_
      refine l_call [] (c3) rfl rfl rfl rfl rfl rfl rfl (by decide) rfl rfl rfl rfl rfl ?_
      refine walk ?_
      refine l_call [] (hf) rfl rfl rfl rfl rfl rfl rfl (by decide) rfl rfl rfl rfl rfl ?_
      refine walk ?_
      exact l_end trivial (by decide) rfl rfl rfl rfl rfl
    | some y =>
      have c2 := Hi_some B hB b2 hd1 hd2 hy
      obtain ⟨z, hz, e1, e_attrs, e_counts, e_bounds, e_exs, e_sum, e_min, e_max⟩ := okHi_app hx hy
      have c3 := Hi_some B hB b3 hd1 hd2 hz
      obtain ⟨-, wx, l1⟩ := Hi_told _ _ _ hx
      obtain ⟨my, wy, l2⟩ := Hi_told _ _ _ hy
      unfold Hi.sz at l1 l2
      have q_attrs : ∀ a : List Kv, (Kv.ds a).length = a.length := fun a => by rw [Kv.ds_map, List.length_map]
      have g1_attrs := Kv.len_szs x.attrs
      have g2_attrs := Kv.len_szs y.attrs
      have q_counts : ∀ a : List Nat, (a.map uD).length = a.length := fun a => List.length_map ..
      have q_bounds : ∀ a : List Nat, (a.map uD).length = a.length := fun a => List.length_map ..
      refine l_call [] (c1) rfl rfl rfl rfl rfl rfl rfl (by decide) rfl rfl rfl rfl rfl ?_
      refine walk ?_
      refine l_call [] (c2) rfl rfl rfl rfl rfl rfl rfl (by decide) rfl rfl rfl rfl rfl ?_
      refine walk ?_
      refine l_step (.addStr (a := s) (b := t) rfl rfl rfl (by omega)) rfl rfl ?_
      refine walk ?_
      refine l_call [] (c3) rfl rfl rfl rfl rfl rfl rfl (by decide) rfl rfl rfl rfl rfl ?_
      refine walk ?_
      refine l_call [] (hf) rfl rfl rfl rfl rfl rfl rfl (by decide) rfl rfl rfl rfl rfl ?_
      refine walk ?_
      refine l_stepG (.addStr (a := x.u) (b := y.u) rfl rfl rfl (by omega)) rfl rfl rfl rfl ?_
      rw [e1]
      refine walk ?_
      rw [show (x.u ++ y.u == x.u ++ y.u) = true by simp]
      refine walk ?_
      have hz_attrs : ((Kv.ds z.attrs).length : Int) = IntKind.i64.wrap ((Kv.ds x.attrs).length + (Kv.ds y.attrs).length) := by
        rw [q_attrs, q_attrs, q_attrs, wrapI (by omega) (by omega), e_attrs]; simp
      rw [hz_attrs]
      rw [show (IntKind.i64.wrap ((Kv.ds x.attrs).length + (Kv.ds y.attrs).length) == IntKind.i64.wrap ((Kv.ds x.attrs).length + (Kv.ds y.attrs).length)) = true by simp]
      refine walk ?_
      have hz_counts : ((z.counts.map uD).length : Int) = IntKind.i64.wrap ((x.counts.map uD).length + (y.counts.map uD).length) := by
        rw [q_counts, q_counts, q_counts, wrapI (by omega) (by omega), e_counts]; simp
      rw [hz_counts]
      rw [show (IntKind.i64.wrap ((x.counts.map uD).length + (y.counts.map uD).length) == IntKind.i64.wrap ((x.counts.map uD).length + (y.counts.map uD).length)) = true by simp]
      refine walk ?_
      have hz_bounds : ((z.bounds.map uD).length : Int) = IntKind.i64.wrap ((x.bounds.map uD).length + (y.bounds.map uD).length) := by
        rw [q_bounds, q_bounds, q_bounds, wrapI (by omega) (by omega), e_bounds]; simp
      rw [hz_bounds]
      rw [show (IntKind.i64.wrap ((x.bounds.map uD).length + (y.bounds.map uD).length) == IntKind.i64.wrap ((x.bounds.map uD).length + (y.bounds.map uD).length)) = true by simp]
      refine walk ?_
      obtain ⟨s1, s2⟩ := e_sum
      generalize z.sumH = zh at *
      generalize x.sumH = xh at *
      subst s1
      cases hyh : y.sumH with
      | false =>
        cases xh <;> (
        refine walk ?_
        exact l_end trivial (by decide) rfl rfl rfl rfl rfl)
      | true =>
        rw [s2 hyh]
        cases xh <;> (
        refine walk ?_
        rw [show ((y.sum : Int) == (y.sum : Int)) = true by simp]
        refine walk ?_
        exact l_end trivial (by decide) rfl rfl rfl rfl rfl)
end Go.Proofs.YtoihfgdjmeeelaaGreatDoor
