/- Nb: of two that are read, one behind the other, it is read too, and has all that stands in lists twice. -/
import Derived.Test.YtaenjdichndafaaGreatDoorNL
set_option linter.unusedSimpArgs false
set_option linter.unusedVariables false
set_option maxRecDepth 100000
namespace Go.Proofs.YtaenjdichndafaaGreatDoor
open Go Go.Abs
variable (B : Fr)
theorem NumberJoins_law (hB : BOk B) (s : List UInt8) (hs : s.length ≤ 9223372036854775807) (t : List UInt8) (ht : t.length ≤ 9223372036854775807) (d : Int) (hd1 : -9223372036854775808 ≤ d) (hd2 : d < 9223372036854775808) :
    CallsA (cx B) 9 [sT s, sT t, .d (.int .i64 d)] [] (.d (.bool true)) [] := by
  have hf := firstNb_calls B hB
  refine l_body (X := cx B) (fn := Tryz.f9) Tryz.func9 rfl rfl rfl rfl rfl 0 [] rfl rfl ?_
  refine walk ?_
  refine l_call [] (hf) rfl rfl rfl rfl rfl rfl rfl (by decide) rfl rfl rfl rfl rfl ?_
  refine walk ?_
  by_cases h1 : s.length > 3000
  · rw [show decide ((s.length : Int) > 3000) = true from decide_eq_true (by omega)]
    refine walk ?_
    refine l_call [] (hf) rfl rfl rfl rfl rfl rfl rfl (by decide) rfl rfl rfl rfl rfl ?_
    refine walk ?_
    exact l_end trivial (by decide) rfl rfl rfl rfl rfl
  rw [show decide ((s.length : Int) > 3000) = false from decide_eq_false (by omega)]
  refine walk ?_
  by_cases h2 : t.length > 3000
  · rw [show decide ((t.length : Int) > 3000) = true from decide_eq_true (by omega)]
    refine walk ?_
    refine l_call [] (hf) rfl rfl rfl rfl rfl rfl rfl (by decide) rfl rfl rfl rfl rfl ?_
    refine walk ?_
    exact l_end trivial (by decide) rfl rfl rfl rfl rfl
  rw [show decide ((t.length : Int) > 3000) = false from decide_eq_false (by omega)]
  refine walk ?_
  have b1 : s.length < big := by unfold big; omega
  have b2 : t.length < big := by unfold big; omega
  have b3 : (s ++ t).length < big := by unfold big; simp; omega
  cases hx : okNb s d with
  | none =>
    obtain ⟨T, x, c1⟩ := Nb_none B hB b1 hd1 hd2 hx
    obtain ⟨y2, x2, c2⟩ := Nb_any B hB b2 hd1 hd2
    obtain ⟨y3, x3, c3⟩ := Nb_any B hB b3 hd1 hd2
    refine l_call [] (c1) rfl rfl rfl rfl rfl rfl rfl (by decide) rfl rfl rfl rfl rfl ?_
    refine walk ?_
    refine l_call [] (c2) rfl rfl rfl rfl rfl rfl rfl (by decide) rfl rfl rfl rfl rfl ?_
    refine walk ?_
    refine l_step (.addStr (a := s) (b := t) rfl rfl rfl (by omega)) rfl rfl ?_
    refine walk ?_
    refine l_call [] (c3) rfl rfl rfl rfl rfl rfl rfl (by decide) rfl rfl rfl rfl rfl ?_
    refine walk ?_
    refine l_call [] (hf) rfl rfl rfl rfl rfl rfl rfl (by decide) rfl rfl rfl rfl rfl ?_
    refine walk ?_
    exact l_end trivial (by decide) rfl rfl rfl rfl rfl
  | some x =>
    have c1 := Nb_some B hB b1 hd1 hd2 hx
    cases hy : okNb t d with
    | none =>
      obtain ⟨T, y, c2⟩ := Nb_none B hB b2 hd1 hd2 hy
      obtain ⟨y3, x3, c3⟩ := Nb_any B hB b3 hd1 hd2
      refine l_call [] (c1) rfl rfl rfl rfl rfl rfl rfl (by decide) rfl rfl rfl rfl rfl ?_
      refine walk ?_
      refine l_call [] (c2) rfl rfl rfl rfl rfl rfl rfl (by decide) rfl rfl rfl rfl rfl ?_
      refine walk ?_
      refine l_step (.addStr (a := s) (b := t) rfl rfl rfl (by omega)) rfl rfl ?_
      refine walk ?_
      refine l_call [] (c3) rfl rfl rfl rfl rfl rfl rfl (by decide) rfl rfl rfl rfl rfl ?_
      refine walk ?_
      refine l_call [] (hf) rfl rfl rfl rfl rfl rfl rfl (by decide) rfl rfl rfl rfl rfl ?_
      refine walk ?_
      exact l_end trivial (by decide) rfl rfl rfl rfl rfl
    | some y =>
      have c2 := Nb_some B hB b2 hd1 hd2 hy
      obtain ⟨z, hz, e1, e_attrs, e_exs, e_kn⟩ := okNb_app hx hy
      have c3 := Nb_some B hB b3 hd1 hd2 hz
      obtain ⟨-, wx, l1⟩ := Nb_told _ _ _ hx
      obtain ⟨my, wy, l2⟩ := Nb_told _ _ _ hy
      unfold Nb.sz at l1 l2
      have q_attrs : ∀ a : List Kv, (Kv.ds a).length = a.length := fun a => by rw [Kv.ds_map, List.length_map]
      have g1_attrs := Kv.len_szs x.attrs
      have g2_attrs := Kv.len_szs y.attrs
      have q_exs : ∀ a : List Em, (a.map Em.d).length = a.length := fun a => List.length_map ..
      have g1_exs := sum_ge (sz := Em.sz) (fun x => by unfold Em.sz; omega) x.exs
      have g2_exs := sum_ge (sz := Em.sz) (fun x => by unfold Em.sz; omega) y.exs
      refine l_call [] (c1) rfl rfl rfl rfl rfl rfl rfl (by decide) rfl rfl rfl rfl rfl ?_
      refine walk ?_
      refine l_call [] (c2) rfl rfl rfl rfl rfl rfl rfl (by decide) rfl rfl rfl rfl rfl ?_
      refine walk ?_
      refine l_step (.addStr (a := s) (b := t) rfl rfl rfl (by omega)) rfl rfl ?_
      refine walk ?_
      refine l_call [] (c3) rfl rfl rfl rfl rfl rfl rfl (by decide) rfl rfl rfl rfl rfl ?_
      refine walk ?_
      refine l_call [] (hf) rfl rfl rfl rfl rfl rfl rfl (by decide) rfl rfl rfl rfl rfl ?_
      refine walk ?_
      refine l_stepG (.addStr (a := x.u) (b := y.u) rfl rfl rfl (by omega)) rfl rfl rfl rfl ?_
      rw [e1]
      refine walk ?_
      rw [show (x.u ++ y.u == x.u ++ y.u) = true by simp]
      refine walk ?_
      have hz_attrs : ((Kv.ds z.attrs).length : Int) = IntKind.i64.wrap ((Kv.ds x.attrs).length + (Kv.ds y.attrs).length) := by
        rw [q_attrs, q_attrs, q_attrs, wrapI (by omega) (by omega), e_attrs]; simp
      rw [hz_attrs]
      rw [show (IntKind.i64.wrap ((Kv.ds x.attrs).length + (Kv.ds y.attrs).length) == IntKind.i64.wrap ((Kv.ds x.attrs).length + (Kv.ds y.attrs).length)) = true by simp]
      refine walk ?_
      have hz_exs : ((z.exs.map Em.d).length : Int) = IntKind.i64.wrap ((x.exs.map Em.d).length + (y.exs.map Em.d).length) := by
        rw [q_exs, q_exs, q_exs, wrapI (by omega) (by omega), e_exs]; simp
      rw [hz_exs]
      rw [show (IntKind.i64.wrap ((x.exs.map Em.d).length + (y.exs.map Em.d).length) == IntKind.i64.wrap ((x.exs.map Em.d).length + (y.exs.map Em.d).length)) = true by simp]
      refine walk ?_
      have hk : 0 ≤ y.kind := by unfold Nb.may mayNum at my; simp at my; omega
      by_cases hy0 : y.kind = 0
      · rw [if_pos hy0] at e_kn
        injection e_kn with k1 k2
        rw [show (y.kind == 0) = true by simp [hy0]]
        refine walk ?_
        rw [show (z.kind == x.kind) = true by simp [k1]]
        refine walk ?_
        rw [show ((z.n : Int) == (x.n : Int)) = true by simp [k2]]
        refine walk ?_
        exact l_end trivial (by decide) rfl rfl rfl rfl rfl
      · rw [if_neg hy0] at e_kn
        injection e_kn with k1 k2
        rw [show (y.kind == 0) = false by simp [hy0]]
        refine walk ?_
        rw [show decide (y.kind > 0) = true from decide_eq_true (by omega)]
        refine walk ?_
        rw [show (z.kind == y.kind) = true by simp [k1]]
        refine walk ?_
        rw [show ((z.n : Int) == (y.n : Int)) = true by simp [k2]]
        refine walk ?_
        exact l_end trivial (by decide) rfl rfl rfl rfl rfl
end Go.Proofs.YtaenjdichndafaaGreatDoor
