/- Me: groups as deep as told are unknown, one deeper is too deep. -/
import Derived.Test.YtmnllpkbjkenfaaGreatDoorML
set_option linter.unusedSimpArgs false
set_option linter.unusedVariables false
set_option maxRecDepth 100000
namespace Go.Proofs.YtmnllpkbjkenfaaGreatDoor
open Go Go.Abs
variable (B : Fr)
theorem MetricDeep_law (hB : BOk B) (s : List UInt8) (hs : s.length ≤ 9223372036854775807) (d : Int) (hd1 : -9223372036854775808 ≤ d) (hd2 : d < 9223372036854775808) :
  CallsA (cx B) 6 [sT s, .d (.int .i64 d)] [] (.d (.bool true)) [] := by
 have hf := firstMe_calls B hB
 refine k'2 (X := cx B) (fn := Tryz.f6) Tryz.func6 rfl rfl rfl rfl rfl 0 [] rfl rfl ?_
 refine walk ?_
 refine k'1 [] (hf) rfl rfl rfl rfl rfl rfl rfl (by decide) rfl rfl rfl rfl rfl ?_
 refine walk ?_
 by_cases h1 : s.length > 6000
 ·rw [show decide ((s.length : Int) > 6000) = true from decide_eq_true (by omega)]
  refine walk ?_
  refine k'1 [] (hf) rfl rfl rfl rfl rfl rfl rfl (by decide) rfl rfl rfl rfl rfl ?_
  refine walk ?_
  exact k'3 trivial (by decide) rfl rfl rfl rfl rfl
 rw [show decide ((s.length : Int) > 6000) = false from decide_eq_false (by omega)]
 refine walk ?_
 by_cases h2 : d < 0
 ·rw [show decide (d < 0) = true from decide_eq_true h2]
  refine walk ?_
  refine k'1 [] (hf) rfl rfl rfl rfl rfl rfl rfl (by decide) rfl rfl rfl rfl rfl ?_
  refine walk ?_
  exact k'3 trivial (by decide) rfl rfl rfl rfl rfl
 rw [show decide (d < 0) = false from decide_eq_false h2]
 refine walk ?_
 by_cases h3 : d > 100
 ·rw [show decide (d > 100) = true from decide_eq_true h3]
  refine walk ?_
  refine k'1 [] (hf) rfl rfl rfl rfl rfl rfl rfl (by decide) rfl rfl rfl rfl rfl ?_
  refine walk ?_
  exact k'3 trivial (by decide) rfl rfl rfl rfl rfl
 rw [show decide (d > 100) = false from decide_eq_false h3]
 refine walk ?_
 obtain ⟨k, rfl⟩ : ∃ n : Nat, d = n := ⟨d.toNat, by omega⟩
 have b1 : s.length < big := by unfold big; omega
 have b2 : ∀ {l : List UInt8}, l.length ≤ 9000 → l.length < big := fun h => by unfold big; omega
 cases hok : okMe s k with
 | none =>
  obtain ⟨T, y, c1⟩ := Me_none B hB b1 hd1 hd2 hok
  refine k'1 [] (c1) rfl rfl rfl rfl rfl rfl rfl (by decide) rfl rfl rfl rfl rfl ?_
  refine walk ?_
  refine k'1 [] (hf) rfl rfl rfl rfl rfl rfl rfl (by decide) rfl rfl rfl rfl rfl ?_
  refine walk ?_
  exact k'3 trivial (by decide) rfl rfl rfl rfl rfl
 | some a =>
  have c1 := Me_some B hB b1 hd1 hd2 hok
  have l1 := okMe_len hok
  have t90 := k'2g B 90 3 (by omega) (by omega) (by omega)
  have t90e := k'2g B 90 4 (by omega) (by omega) (by omega)
  have t91 := k'2g B 91 3 (by omega) (by omega) (by omega)
  have t91e := k'2g B 91 4 (by omega) (by omega) (by omega)
  have t92e := k'2g B 92 4 (by omega) (by omega) (by omega)
  have l90 := k'10 90 3
  have l90e := k'10 90 4
  have l91 := k'10 91 3
  have l91e := k'10 91 4
  have l92e := k'10 92 4
  have lg := gN_len k
  have e2 := okMe_right (may_gN (tb := tbM) (tbM_90) (Int.le_refl (k : Int))) hok
  obtain ⟨er, g1, g2⟩ := deep_g k
  obtain ⟨-, g3⟩ := okMe_bad hok g1
  obtain ⟨eh, h5⟩ := deep_h (k : Int)
  obtain ⟨h6, -⟩ := okMe_bad hok h5
  obtain ⟨ei, i5⟩ := deep_i (k : Int)
  obtain ⟨i6, -⟩ := okMe_bad hok i5
  have c2 := Me_some B hB (b2 (by simp; omega)) hd1 hd2 e2
  have c3 := Me_err B hB (b2 (by simp; omega)) hd1 hd2 g3
  obtain ⟨T4, x4, c4⟩ := Me_none B hB (b2 (by simp; omega)) hd1 hd2 h6
  obtain ⟨T5, x5, c5⟩ := Me_none B hB (b2 (by simp; omega)) hd1 hd2 i6
  have c6 := Code_calls B hB (some (er.sh s.length))
  have hce : codeE (some (er.sh s.length)) = 6 := by show codeOf (er.sh s.length) = 6; rw [codeOf_sh, g2]
  rw [hce] at c6
  have hed : eD (some (er.sh s.length)) = (er.sh s.length).d := rfl
  rw [hed] at c6
  generalize (er.sh s.length).d = xe at *
  rw [show s ++ (tagV 91 3 ++ (gN k ++ tagV 91 4)) = s ++ tagV 91 3 ++ gN k ++ tagV 91 4 by simp] at c3
  rw [show s ++ (tagV 90 3 ++ tagV 92 4) = s ++ tagV 90 3 ++ tagV 92 4 by simp] at c5
  refine k'1 [] (c1) rfl rfl rfl rfl rfl rfl rfl (by decide) rfl rfl rfl rfl rfl ?_
  refine walk ?_
  refine k'c (fun i : Nat => k - i) (fun i => [(0, sT s), (1, iT k), (5, .ptr 0 0), (7, sT (gN i)), (8, iT i)]) (fun _ => [.mu (a.d.cells.map T.d)]) (fun i => i ≤ k) 0 (by omega) ⟨rfl, rfl, rfl, rfl, rfl, trivial⟩ rfl 1 rfl (fun _ => rfl) (fun _ => rfl) (fun _ => rfl) ?_
  intro i i1
  refine walk ?_
  refine k'f rfl (fun hc => ?_) (fun hc => ?_)
  ·have hlt : i < k := by have := of_decide_eq_true hc; omega
   have lgi := gN_len i
   refine walk ?_
   refine k'1 [] (t90) rfl rfl rfl rfl rfl rfl rfl (by decide) rfl rfl rfl rfl rfl ?_
   refine walk ?_
   refine k'4 (.addStr (a := tagV 90 3) (b := gN i) rfl rfl rfl (by omega)) rfl rfl ?_
   refine k'1 [] (t90e) rfl rfl rfl rfl rfl rfl rfl (by decide) rfl rfl rfl rfl rfl ?_
   refine walk ?_
   refine k'4 (.addStr (a := tagV 90 3 ++ gN i) (b := tagV 90 4) rfl rfl rfl (by simp; omega)) rfl rfl ?_
   refine walk ?_
   rw [show IntKind.i64.wrap ((i : Int) + 1) = ((i + 1 : Nat) : Int) by rw [wrapI (by omega) (by omega)]; omega, show tagV 90 3 ++ gN i ++ tagV 90 4 = gN (i + 1) by rw [gN_succ]; simp]
   exact ⟨i + 1, by omega, by omega, ⟨rfl, rfl, rfl, rfl, rfl, trivial⟩, rfl, k's rfl⟩
  ·have hge : i = k := by have := of_decide_eq_false hc; omega
   subst hge
   refine walk ?_
   refine k'4 (.addStr (a := s) (b := gN i) rfl rfl rfl (by omega)) rfl rfl ?_
   refine walk ?_
   refine k'1 [] (c2) rfl rfl rfl rfl rfl rfl rfl (by decide) rfl rfl rfl rfl rfl ?_
   refine walk ?_
   refine k'1 [] (t91) rfl rfl rfl rfl rfl rfl rfl (by decide) rfl rfl rfl rfl rfl ?_
   refine walk ?_
   refine k'4 (.addStr (a := s) (b := tagV 91 3) rfl rfl rfl (by omega)) rfl rfl ?_
   refine walk ?_
   refine k'4 (.addStr (a := s ++ tagV 91 3) (b := gN i) rfl rfl rfl (by simp; omega)) rfl rfl ?_
   refine k'1 [] (t91e) rfl rfl rfl rfl rfl rfl rfl (by decide) rfl rfl rfl rfl rfl ?_
   refine walk ?_
   refine k'4 (.addStr (a := s ++ tagV 91 3 ++ gN i) (b := tagV 91 4) rfl rfl rfl (by simp; omega)) rfl rfl ?_
   refine walk ?_
   refine k'1 [] (c3) rfl rfl rfl rfl rfl rfl rfl (by decide) rfl rfl rfl rfl rfl ?_
   refine walk ?_
   refine k'1 [] (t90) rfl rfl rfl rfl rfl rfl rfl (by decide) rfl rfl rfl rfl rfl ?_
   refine walk ?_
   refine k'4 (.addStr (a := s) (b := tagV 90 3) rfl rfl rfl (by omega)) rfl rfl ?_
   refine walk ?_
   refine k'1 [] (c4) rfl rfl rfl rfl rfl rfl rfl (by decide) rfl rfl rfl rfl rfl ?_
   refine walk ?_
   refine k'1 [] (t90) rfl rfl rfl rfl rfl rfl rfl (by decide) rfl rfl rfl rfl rfl ?_
   refine walk ?_
   refine k'4 (.addStr (a := s) (b := tagV 90 3) rfl rfl rfl (by omega)) rfl rfl ?_
   refine k'1 [] (t92e) rfl rfl rfl rfl rfl rfl rfl (by decide) rfl rfl rfl rfl rfl ?_
   refine walk ?_
   refine k'4 (.addStr (a := s ++ tagV 90 3) (b := tagV 92 4) rfl rfl rfl (by simp; omega)) rfl rfl ?_
   refine walk ?_
   refine k'1 [] (c5) rfl rfl rfl rfl rfl rfl rfl (by decide) rfl rfl rfl rfl rfl ?_
   refine walk ?_
   refine k'1 [] (hf) rfl rfl rfl rfl rfl rfl rfl (by decide) rfl rfl rfl rfl rfl ?_
   refine walk ?_
   refine k'1f (.addStr (a := a.u) (b := gN i) rfl rfl rfl (by omega)) rfl rfl rfl rfl ?_
   refine walk ?_
   rw [show ((a.setU (a.u ++ gN i)).u == a.u ++ gN i) = true by simp [Me.setU]]
   refine walk ?_
   refine k'6 [] (c6) rfl rfl rfl rfl rfl rfl rfl rfl rfl (by decide) rfl rfl rfl rfl rfl ?_
   refine walk ?_
   exact k'3 trivial (by decide) rfl rfl rfl rfl rfl
end Go.Proofs.YtmnllpkbjkenfaaGreatDoor
