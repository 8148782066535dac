/- Eh: groups as deep as told are unknown, one deeper is too deep. -/
import Derived.Test.YtcinfkbdmjnjlaaGreatDoorQL
set_option linter.unusedSimpArgs false
set_option linter.unusedVariables false
set_option maxRecDepth 100000
namespace Go.Proofs.YtcinfkbdmjnjlaaGreatDoor
open Go Go.Abs
variable (B : Fr)
theorem ExphDeep_law (hB : BOk B) (s : List UInt8) (hs : s.length ≤ 9223372036854775807) (d : Int) (hd1 : -9223372036854775808 ≤ d) (hd2 : d < 9223372036854775808) :
    CallsA (cx B) 5 [sT s, .d (.int .i64 d)] [] (.d (.bool true)) [] := by
  have hf := firstEh_calls B hB
  refine l_body (X := cx B) (fn := Tryz.f5) Tryz.func5 rfl rfl rfl rfl rfl 0 [] rfl rfl ?_
  refine walk ?_
  refine l_call [] (hf) rfl rfl rfl rfl rfl rfl rfl (by decide) rfl rfl rfl rfl rfl ?_
  refine walk ?_
  by_cases h1 : s.length > 6000
  · rw [show decide ((s.length : Int) > 6000) = true from decide_eq_true (by omega)]
    refine walk ?_
    refine l_call [] (hf) rfl rfl rfl rfl rfl rfl rfl (by decide) rfl rfl rfl rfl rfl ?_
    refine walk ?_
    exact l_end trivial (by decide) rfl rfl rfl rfl rfl
  rw [show decide ((s.length : Int) > 6000) = false from decide_eq_false (by omega)]
  refine walk ?_
  by_cases h2 : d < 0
  · rw [show decide (d < 0) = true from decide_eq_true h2]
    refine walk ?_
    refine l_call [] (hf) rfl rfl rfl rfl rfl rfl rfl (by decide) rfl rfl rfl rfl rfl ?_
    refine walk ?_
    exact l_end trivial (by decide) rfl rfl rfl rfl rfl
  rw [show decide (d < 0) = false from decide_eq_false h2]
  refine walk ?_
  by_cases h3 : d > 100
  · rw [show decide (d > 100) = true from decide_eq_true h3]
    refine walk ?_
    refine l_call [] (hf) rfl rfl rfl rfl rfl rfl rfl (by decide) rfl rfl rfl rfl rfl ?_
    refine walk ?_
    exact l_end trivial (by decide) rfl rfl rfl rfl rfl
  rw [show decide (d > 100) = false from decide_eq_false h3]
  refine walk ?_
  obtain ⟨k, rfl⟩ : ∃ n : Nat, d = n := ⟨d.toNat, by omega⟩
  have b1 : s.length < big := by unfold big; omega
  have b2 : ∀ {l : List UInt8}, l.length ≤ 9000 → l.length < big := fun h => by unfold big; omega
  cases hok : okEh s k with
  | none =>
    obtain ⟨T, y, c1⟩ := Eh_none B hB b1 hd1 hd2 hok
    refine l_call [] (c1) rfl rfl rfl rfl rfl rfl rfl (by decide) rfl rfl rfl rfl rfl ?_
    refine walk ?_
    refine l_call [] (hf) rfl rfl rfl rfl rfl rfl rfl (by decide) rfl rfl rfl rfl rfl ?_
    refine walk ?_
    exact l_end trivial (by decide) rfl rfl rfl rfl rfl
  | some a =>
    have c1 := Eh_some B hB b1 hd1 hd2 hok
    have l1 := okEh_len hok
    have t90 := Tag_calls B 90 3 (by omega) (by omega) (by omega)
    have t90e := Tag_calls B 90 4 (by omega) (by omega) (by omega)
    have t91 := Tag_calls B 91 3 (by omega) (by omega) (by omega)
    have t91e := Tag_calls B 91 4 (by omega) (by omega) (by omega)
    have t92e := Tag_calls B 92 4 (by omega) (by omega) (by omega)
    have l90 := tagV_len 90 3
    have l90e := tagV_len 90 4
    have l91 := tagV_len 91 3
    have l91e := tagV_len 91 4
    have l92e := tagV_len 92 4
    have lg := gN_len k
    have e2 := okEh_right (may_gN (tb := tbQ) (tbQ_90) (Int.le_refl (k : Int))) hok
    obtain ⟨er, g1, g2⟩ := deep_g k
    obtain ⟨-, g3⟩ := okEh_bad hok g1
    obtain ⟨eh, h5⟩ := deep_h (k : Int)
    obtain ⟨h6, -⟩ := okEh_bad hok h5
    obtain ⟨ei, i5⟩ := deep_i (k : Int)
    obtain ⟨i6, -⟩ := okEh_bad hok i5
    have c2 := Eh_some B hB (b2 (by simp; omega)) hd1 hd2 e2
    have c3 := Eh_err B hB (b2 (by simp; omega)) hd1 hd2 g3
    obtain ⟨T4, x4, c4⟩ := Eh_none B hB (b2 (by simp; omega)) hd1 hd2 h6
    obtain ⟨T5, x5, c5⟩ := Eh_none B hB (b2 (by simp; omega)) hd1 hd2 i6
    have c6 := Code_calls B hB (some (er.sh s.length))
    have hce : codeE (some (er.sh s.length)) = 6 := by show codeOf (er.sh s.length) = 6; rw [codeOf_sh, g2]
    rw [hce] at c6
    have hed : eD (some (er.sh s.length)) = (er.sh s.length).d := rfl
    rw [hed] at c6
    generalize (er.sh s.length).d = xe at *
    rw [show s ++ (tagV 91 3 ++ (gN k ++ tagV 91 4)) = s ++ tagV 91 3 ++ gN k ++ tagV 91 4 by simp] at c3
    rw [show s ++ (tagV 90 3 ++ tagV 92 4) = s ++ tagV 90 3 ++ tagV 92 4 by simp] at c5
    refine l_call [] (c1) rfl rfl rfl rfl rfl rfl rfl (by decide) rfl rfl rfl rfl rfl ?_
    refine walk ?_
    refine l_loop (fun i : Nat => k - i) (fun i => [(0, sT s), (1, iT k), (5, .ptr 0 0), (7, sT (gN i)), (8, iT i)]) (fun _ => [.mu (a.d.cells.map T.d)]) (fun i => i ≤ k) 0 (by omega) ⟨rfl, rfl, rfl, rfl, rfl, trivial⟩ rfl 1 rfl (fun _ => rfl) (fun _ => rfl) (fun _ => rfl) ?_
    intro i i1
    refine walk ?_
    refine r_cond rfl (fun hc => ?_) (fun hc => ?_)
    · have hlt : i < k := by have := of_decide_eq_true hc; omega
      have lgi := gN_len i
      refine walk ?_
      refine l_call [] (t90) rfl rfl rfl rfl rfl rfl rfl (by decide) rfl rfl rfl rfl rfl ?_
      refine walk ?_
      refine l_step (.addStr (a := tagV 90 3) (b := gN i) rfl rfl rfl (by omega)) rfl rfl ?_
      refine l_call [] (t90e) rfl rfl rfl rfl rfl rfl rfl (by decide) rfl rfl rfl rfl rfl ?_
      refine walk ?_
      refine l_step (.addStr (a := tagV 90 3 ++ gN i) (b := tagV 90 4) rfl rfl rfl (by simp; omega)) rfl rfl ?_
      refine walk ?_
      rw [show IntKind.i64.wrap ((i : Int) + 1) = ((i + 1 : Nat) : Int) by rw [wrapI (by omega) (by omega)]; omega, show tagV 90 3 ++ gN i ++ tagV 90 4 = gN (i + 1) by rw [gN_succ]; simp]
      exact ⟨i + 1, by omega, by omega, ⟨rfl, rfl, rfl, rfl, rfl, trivial⟩, rfl, wk_eq rfl⟩
    · have hge : i = k := by have := of_decide_eq_false hc; omega
      subst hge
      refine walk ?_
      refine l_step (.addStr (a := s) (b := gN i) rfl rfl rfl (by omega)) rfl rfl ?_
      refine walk ?_
      refine l_call [] (c2) rfl rfl rfl rfl rfl rfl rfl (by decide) rfl rfl rfl rfl rfl ?_
      refine walk ?_
      refine l_call [] (t91) rfl rfl rfl rfl rfl rfl rfl (by decide) rfl rfl rfl rfl rfl ?_
      refine walk ?_
      refine l_step (.addStr (a := s) (b := tagV 91 3) rfl rfl rfl (by omega)) rfl rfl ?_
      refine walk ?_
      refine l_step (.addStr (a := s ++ tagV 91 3) (b := gN i) rfl rfl rfl (by simp; omega)) rfl rfl ?_
      refine l_call [] (t91e) rfl rfl rfl rfl rfl rfl rfl (by decide) rfl rfl rfl rfl rfl ?_
      refine walk ?_
      refine l_step (.addStr (a := s ++ tagV 91 3 ++ gN i) (b := tagV 91 4) rfl rfl rfl (by simp; omega)) rfl rfl ?_
      refine walk ?_
      refine l_call [] (c3) rfl rfl rfl rfl rfl rfl rfl (by decide) rfl rfl rfl rfl rfl ?_
      refine walk ?_
      refine l_call [] (t90) rfl rfl rfl rfl rfl rfl rfl (by decide) rfl rfl rfl rfl rfl ?_
      refine walk ?_
      refine l_step (.addStr (a := s) (b := tagV 90 3) rfl rfl rfl (by omega)) rfl rfl ?_
      refine walk ?_
      refine l_call [] (c4) rfl rfl rfl rfl rfl rfl rfl (by decide) rfl rfl rfl rfl rfl ?_
      refine walk ?_
      refine l_call [] (t90) rfl rfl rfl rfl rfl rfl rfl (by decide) rfl rfl rfl rfl rfl ?_
      refine walk ?_
      refine l_step (.addStr (a := s) (b := tagV 90 3) rfl rfl rfl (by omega)) rfl rfl ?_
      refine l_call [] (t92e) rfl rfl rfl rfl rfl rfl rfl (by decide) rfl rfl rfl rfl rfl ?_
      refine walk ?_
      refine l_step (.addStr (a := s ++ tagV 90 3) (b := tagV 92 4) rfl rfl rfl (by simp; omega)) rfl rfl ?_
      refine walk ?_
      refine l_call [] (c5) rfl rfl rfl rfl rfl rfl rfl (by decide) rfl rfl rfl rfl rfl ?_
      refine walk ?_
      refine l_call [] (hf) rfl rfl rfl rfl rfl rfl rfl (by decide) rfl rfl rfl rfl rfl ?_
      refine walk ?_
      refine l_stepG (.addStr (a := a.u) (b := gN i) rfl rfl rfl (by omega)) rfl rfl rfl rfl ?_
      refine walk ?_
      rw [show ((a.setU (a.u ++ gN i)).u == a.u ++ gN i) = true by simp [Eh.setU]]
      refine walk ?_
      refine l_callG [] (c6) rfl rfl rfl rfl rfl rfl rfl rfl rfl (by decide) rfl rfl rfl rfl rfl ?_
      refine walk ?_
      exact l_end trivial (by decide) rfl rfl rfl rfl rfl
end Go.Proofs.YtcinfkbdmjnjlaaGreatDoor
