/- Eh: of two that are read, one behind the other, it is read too, and has all that stands in lists twice. -/
import Derived.Test.YtcinfkbdmjnjlaaGreatDoorQL
set_option linter.unusedSimpArgs false
set_option linter.unusedVariables false
set_option maxRecDepth 100000
namespace Go.Proofs.YtcinfkbdmjnjlaaGreatDoor
open Go Go.Abs
variable (B : Fr)
theorem ExphJoins_law (hB : BOk B) (s : List UInt8) (hs : s.length ≤ 9223372036854775807) (t : List UInt8) (ht : t.length ≤ 9223372036854775807) (d : Int) (hd1 : -9223372036854775808 ≤ d) (hd2 : d < 9223372036854775808) :
    CallsA (cx B) 3 [sT s, sT t, .d (.int .i64 d)] [] (.d (.bool true)) [] := by
  have hf := firstEh_calls B hB
  refine l_body (X := cx B) (fn := Tryz.f3) Tryz.func3 rfl rfl rfl rfl rfl 0 [] rfl rfl ?_
  refine walk ?_
  refine l_call [] (hf) rfl rfl rfl rfl rfl rfl rfl (by decide) rfl rfl rfl rfl rfl ?_
  refine walk ?_
  by_cases h1 : s.length > 3000
  · rw [show decide ((s.length : Int) > 3000) = true from decide_eq_true (by omega)]
    refine walk ?_
    refine l_call [] (hf) rfl rfl rfl rfl rfl rfl rfl (by decide) rfl rfl rfl rfl rfl ?_
    refine walk ?_
    exact l_end trivial (by decide) rfl rfl rfl rfl rfl
  rw [show decide ((s.length : Int) > 3000) = false from decide_eq_false (by omega)]
  refine walk ?_
  by_cases h2 : t.length > 3000
  · rw [show decide ((t.length : Int) > 3000) = true from decide_eq_true (by omega)]
    refine walk ?_
    refine l_call [] (hf) rfl rfl rfl rfl rfl rfl rfl (by decide) rfl rfl rfl rfl rfl ?_
    refine walk ?_
    exact l_end trivial (by decide) rfl rfl rfl rfl rfl
  rw [show decide ((t.length : Int) > 3000) = false from decide_eq_false (by omega)]
  refine walk ?_
  have b1 : s.length < big := by unfold big; omega
  have b2 : t.length < big := by unfold big; omega
  have b3 : (s ++ t).length < big := by unfold big; simp; omega
  cases hx : okEh s d with
  | none =>
    obtain ⟨T, x, c1⟩ := Eh_none B hB b1 hd1 hd2 hx
    obtain ⟨y2, x2, c2⟩ := Eh_any B hB b2 hd1 hd2
    obtain ⟨y3, x3, c3⟩ := Eh_any B hB b3 hd1 hd2
    refine l_call [] (c1) rfl rfl rfl rfl rfl rfl rfl (by decide) rfl rfl rfl rfl rfl ?_
    refine walk ?_
    refine l_call [] (c2) rfl rfl rfl rfl rfl rfl rfl (by decide) rfl rfl rfl rfl rfl ?_
    refine walk ?_
    refine l_step (.addStr (a := s) (b := t) rfl rfl rfl (by omega)) rfl rfl ?_
    refine walk ?_
    refine l_call [] (c3) rfl rfl rfl rfl rfl rfl rfl (by decide) rfl rfl rfl rfl rfl ?_
    refine walk ?_
    refine l_call [] (hf) rfl rfl rfl rfl rfl rfl rfl (by decide) rfl rfl rfl rfl rfl ?_
    refine walk ?_
    exact l_end trivial (by decide) rfl rfl rfl rfl rfl
  | some x =>
    have c1 := Eh_some B hB b1 hd1 hd2 hx
    cases hy : okEh t d with
    | none =>
      obtain ⟨T, y, c2⟩ := Eh_none B hB b2 hd1 hd2 hy
      obtain ⟨y3, x3, c3⟩ := Eh_any B hB b3 hd1 hd2
      refine l_call [] (c1) rfl rfl rfl rfl rfl rfl rfl (by decide) rfl rfl rfl rfl rfl ?_
      refine walk ?_
      refine l_call [] (c2) rfl rfl rfl rfl rfl rfl rfl (by decide) rfl rfl rfl rfl rfl ?_
      refine walk ?_
      refine l_step (.addStr (a := s) (b := t) rfl rfl rfl (by omega)) rfl rfl ?_
      refine walk ?_
      refine l_call [] (c3) rfl rfl rfl rfl rfl rfl rfl (by decide) rfl rfl rfl rfl rfl ?_
      refine walk ?_
      refine l_call [] (hf) rfl rfl rfl rfl rfl rfl rfl (by decide) rfl rfl rfl rfl rfl ?_
      refine walk ?_
      exact l_end trivial (by decide) rfl rfl rfl rfl rfl
    | some y =>
      have c2 := Eh_some B hB b2 hd1 hd2 hy
      obtain ⟨z, hz, e1, e_attrs, e_exs, e_pos, e_neg, e_sum, e_min, e_max⟩ := okEh_app hx hy
      have c3 := Eh_some B hB b3 hd1 hd2 hz
      obtain ⟨-, wx, l1⟩ := Eh_told _ _ _ hx
      obtain ⟨my, wy, l2⟩ := Eh_told _ _ _ hy
      unfold Eh.sz at l1 l2
      have q_attrs : ∀ a : List Kv, (Kv.ds a).length = a.length := fun a => by rw [Kv.ds_map, List.length_map]
      have g1_attrs := Kv.len_szs x.attrs
      have g2_attrs := Kv.len_szs y.attrs
      refine l_call [] (c1) rfl rfl rfl rfl rfl rfl rfl (by decide) rfl rfl rfl rfl rfl ?_
      refine walk ?_
      refine l_call [] (c2) rfl rfl rfl rfl rfl rfl rfl (by decide) rfl rfl rfl rfl rfl ?_
      refine walk ?_
      refine l_step (.addStr (a := s) (b := t) rfl rfl rfl (by omega)) rfl rfl ?_
      refine walk ?_
      refine l_call [] (c3) rfl rfl rfl rfl rfl rfl rfl (by decide) rfl rfl rfl rfl rfl ?_
      refine walk ?_
      refine l_call [] (hf) rfl rfl rfl rfl rfl rfl rfl (by decide) rfl rfl rfl rfl rfl ?_
      refine walk ?_
      refine l_stepG (.addStr (a := x.u) (b := y.u) rfl rfl rfl (by omega)) rfl rfl rfl rfl ?_
      rw [e1]
      refine walk ?_
      rw [show (x.u ++ y.u == x.u ++ y.u) = true by simp]
      refine walk ?_
      have hz_attrs : ((Kv.ds z.attrs).length : Int) = IntKind.i64.wrap ((Kv.ds x.attrs).length + (Kv.ds y.attrs).length) := by
        rw [q_attrs, q_attrs, q_attrs, wrapI (by omega) (by omega), e_attrs]; simp
      rw [hz_attrs]
      rw [show (IntKind.i64.wrap ((Kv.ds x.attrs).length + (Kv.ds y.attrs).length) == IntKind.i64.wrap ((Kv.ds x.attrs).length + (Kv.ds y.attrs).length)) = true by simp]
      refine walk ?_
      obtain ⟨s1, s2, s3⟩ := e_pos
      obtain ⟨-, -, s6⟩ := e_neg
      have hp_z : ((z.pos.cs.map uD).length : Int) = IntKind.i64.wrap ((x.pos.cs.map uD).length + (y.pos.cs.map uD).length) := by
        unfold Bk.sz at l1 l2
        rw [List.length_map, List.length_map, List.length_map, wrapI (by omega) (by omega), s3]; simp
      have hn_z : ((z.neg.cs.map uD).length : Int) = IntKind.i64.wrap ((x.neg.cs.map uD).length + (y.neg.cs.map uD).length) := by
        unfold Bk.sz at l1 l2
        rw [List.length_map, List.length_map, List.length_map, wrapI (by omega) (by omega), s6]; simp
      generalize z.posH = zh at *
      generalize x.posH = xh at *
      generalize y.posH = yh at *
      subst s1
      cases xh <;> cases yh <;> (
      refine walk ?_
      rw [hp_z]
      rw [show (IntKind.i64.wrap ((x.pos.cs.map uD).length + (y.pos.cs.map uD).length) == IntKind.i64.wrap ((x.pos.cs.map uD).length + (y.pos.cs.map uD).length)) = true by simp]
      refine walk ?_
      refine l_stepG (.addStr (a := x.pos.u) (b := y.pos.u) rfl rfl rfl (by unfold Bk.sz at l1 l2; omega)) rfl rfl rfl rfl ?_
      rw [s2]
      refine walk ?_
      rw [show (x.pos.u ++ y.pos.u == x.pos.u ++ y.pos.u) = true by simp]
      refine walk ?_
      rw [hn_z]
      rw [show (IntKind.i64.wrap ((x.neg.cs.map uD).length + (y.neg.cs.map uD).length) == IntKind.i64.wrap ((x.neg.cs.map uD).length + (y.neg.cs.map uD).length)) = true by simp]
      refine walk ?_
      exact l_end trivial (by decide) rfl rfl rfl rfl rfl)
end Go.Proofs.YtcinfkbdmjnjlaaGreatDoor
