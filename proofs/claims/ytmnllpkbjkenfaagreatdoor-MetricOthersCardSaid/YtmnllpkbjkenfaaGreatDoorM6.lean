/- Me: records of other types are unknown, wherever they stand. -/
import Derived.Test.YtmnllpkbjkenfaaGreatDoorML
import Derived.Test.YtmnllpkbjkenfaaGreatDoorPW
set_option linter.unusedSimpArgs false
set_option linter.unusedVariables false
set_option maxRecDepth 100000
namespace Go.Proofs.YtmnllpkbjkenfaaGreatDoor
open Go Go.Abs
variable (B : Fr)
theorem MetricOthers_law (hB : BOk B) (s : List UInt8) (hs : s.length ≤ 9223372036854775807) (d : Int) (hd1 : -9223372036854775808 ≤ d) (hd2 : d < 9223372036854775808)
  (num : Int) (hn1 : -9223372036854775808 ≤ num) (hn2 : num < 9223372036854775808) (x : Int) (hx1 : 0 ≤ x) (hx2 : x < 18446744073709551616) :
  CallsA (cx B) 11 [sT s, .d (.int .i64 d), .d (.int .i64 num), .d (.int .u64 x)] [] (.d (.bool true)) [] := by
 obtain ⟨x, rfl⟩ : ∃ n : Nat, x = n := ⟨x.toNat, by omega⟩
 have hf := firstMe_calls B hB
 refine k'2 (X := cx B) (fn := Tryz.f11) Tryz.func11 rfl rfl rfl rfl rfl 0 [] rfl rfl ?_
 refine walk ?_
 refine k'1 [] (hf) rfl rfl rfl rfl rfl rfl rfl (by decide) rfl rfl rfl rfl rfl ?_
 refine walk ?_
 by_cases h1 : s.length > 6000
 ·rw [show decide ((s.length : Int) > 6000) = true from decide_eq_true (by omega)]
  refine walk ?_
  refine k'1 [] (hf) rfl rfl rfl rfl rfl rfl rfl (by decide) rfl rfl rfl rfl rfl ?_
  refine walk ?_
  exact k'3 trivial (by decide) rfl rfl rfl rfl rfl
 rw [show decide ((s.length : Int) > 6000) = false from decide_eq_false (by omega)]
 refine walk ?_
 by_cases h2 : num < 1
 ·rw [show decide (num < 1) = true from decide_eq_true h2]
  refine walk ?_
  refine k'1 [] (hf) rfl rfl rfl rfl rfl rfl rfl (by decide) rfl rfl rfl rfl rfl ?_
  refine walk ?_
  exact k'3 trivial (by decide) rfl rfl rfl rfl rfl
 rw [show decide (num < 1) = false from decide_eq_false h2]
 refine walk ?_
 by_cases h3 : num ≥ 536870912
 ·rw [show decide (num ≥ 536870912) = true from decide_eq_true h3]
  refine walk ?_
  refine k'1 [] (hf) rfl rfl rfl rfl rfl rfl rfl (by decide) rfl rfl rfl rfl rfl ?_
  refine walk ?_
  exact k'3 trivial (by decide) rfl rfl rfl rfl rfl
 rw [show decide (num ≥ 536870912) = false from decide_eq_false h3]
 refine walk ?_
 obtain ⟨num, rfl⟩ : ∃ n : Nat, num = n := ⟨num.toNat, by omega⟩
 have hu : (tagV num 5 ++ [97, 98, 99, 100]).length ≤ 14 := by have := k'10 num 5; simp; omega
 have hv : (tagV 536870911 1 ++ le8 x).length ≤ 18 := by have := k'10 536870911 1; have := k'2v x; simp; omega
 have hl0 := k'10 num 5
 have b1 : s.length < big := by unfold big; omega
 have b2 : ∀ {l : List UInt8}, l.length ≤ 7000 → l.length < big := fun h => by unfold big; omega
 have ct := k'2g B num 5 (by omega) (by omega) (by omega)
 have cf := Fixed_calls B 536870911 x (by omega) (by omega)
 have anyU : ∀ {u : List UInt8}, u.length < big → ∃ (b : Me) (y : D), CallsA (cx B) 13 [sT u, .d (.int .i64 d)] [] (.tup [.d b.d, .d y]) [] := fun {u} hu => by
  cases h : okMe u d with
  | some b => exact ⟨_, _, Me_some B hB hu hd1 hd2 h⟩
  | none => obtain ⟨T, x, h⟩ := Me_none B hB hu hd1 hd2 h; exact ⟨_, _, h⟩
 have huall : 0 ≤ d → mayU tbM (tagV num 5 ++ [97, 98, 99, 100]) d = true := fun hd => may_one hd (rec_all (recE_f32 d [97, 98, 99, 100] (by omega) (by omega) rfl)) (tbM_5 num)
 have hvall : 0 ≤ d → mayU tbM (tagV 536870911 1 ++ le8 x) d = true := fun hd => may_one hd (rec_all (recE_f64 d (le8 x) (by omega) (by omega) (k'2v x))) (tbM_x)
 cases hok : okMe s d with
 | none =>
  have hleft := okMe_left_none (s := s) huall hok
  obtain ⟨T, y, c1⟩ := Me_none B hB b1 hd1 hd2 hok
  obtain ⟨y2, x2, c2⟩ := anyU (u := s ++ (tagV num 5 ++ [97, 98, 99, 100])) (b2 (by simp at hu ⊢; omega))
  obtain ⟨T3, x3, c3⟩ := Me_none B hB (s := (tagV num 5 ++ [97, 98, 99, 100]) ++ s) (b2 (by simp at hu ⊢; omega)) hd1 hd2 hleft
  refine k'1 [] (c1) rfl rfl rfl rfl rfl rfl rfl (by decide) rfl rfl rfl rfl rfl ?_
  refine walk ?_
  refine k'1 [] (ct) rfl rfl rfl rfl rfl rfl rfl (by decide) rfl rfl rfl rfl rfl ?_
  refine walk ?_
  refine k'4 (.addStr (a := tagV num 5) (b := [97, 98, 99, 100]) rfl rfl rfl (by simp; omega)) rfl rfl ?_
  refine walk ?_
  generalize tagV num 5 ++ [97, 98, 99, 100] = u at *
  refine k'4 (.addStr (a := s) (b := u) rfl rfl rfl (by omega)) rfl rfl ?_
  refine walk ?_
  refine k'1 [] (c2) rfl rfl rfl rfl rfl rfl rfl (by decide) rfl rfl rfl rfl rfl ?_
  refine walk ?_
  refine k'4 (.addStr (a := u) (b := s) rfl rfl rfl (by omega)) rfl rfl ?_
  refine walk ?_
  refine k'1 [] (c3) rfl rfl rfl rfl rfl rfl rfl (by decide) rfl rfl rfl rfl rfl ?_
  refine walk ?_
  refine k'1 [] (hf) rfl rfl rfl rfl rfl rfl rfl (by decide) rfl rfl rfl rfl rfl ?_
  refine walk ?_
  exact k'3 trivial (by decide) rfl rfl rfl rfl rfl
 | some a =>
  have hd := okMe_pos hok
  have hU := huall hd
  have hV := hvall hd
  have l1 := okMe_len hok
  have l2 := Me_told _ _ _ hok
  have e2 := okMe_right hU hok
  have e3 := okMe_left hU hok
  have e4 : okMe (((tagV 536870911 1 ++ le8 x) ++ s) ++ (tagV 536870911 1 ++ le8 x)) d = some ((a.setU ((tagV 536870911 1 ++ le8 x) ++ a.u)).setU ((a.setU ((tagV 536870911 1 ++ le8 x) ++ a.u)).u ++ (tagV 536870911 1 ++ le8 x))) := okMe_right hV (okMe_left hV hok)
  have c1 := Me_some B hB b1 hd1 hd2 hok
  have c2 := Me_some B hB (b2 (by simp at hu ⊢; omega)) hd1 hd2 e2
  have c3 := Me_some B hB (b2 (by simp at hu ⊢; omega)) hd1 hd2 e3
  have c4 := Me_some B hB (b2 (by simp at hv ⊢; omega)) hd1 hd2 e4
  have c5 := Me_Same_calls B a a a.d a.d (by unfold big; omega) a.d_R a.d_R
  rw [Me.eq_self] at c5
  refine k'1 [] (c1) rfl rfl rfl rfl rfl rfl rfl (by decide) rfl rfl rfl rfl rfl ?_
  refine walk ?_
  refine k'1 [] (ct) rfl rfl rfl rfl rfl rfl rfl (by decide) rfl rfl rfl rfl rfl ?_
  refine walk ?_
  refine k'4 (.addStr (a := tagV num 5) (b := [97, 98, 99, 100]) rfl rfl rfl (by simp; omega)) rfl rfl ?_
  refine walk ?_
  generalize tagV num 5 ++ [97, 98, 99, 100] = u at *
  refine k'4 (.addStr (a := s) (b := u) rfl rfl rfl (by omega)) rfl rfl ?_
  refine walk ?_
  refine k'1 [] (c2) rfl rfl rfl rfl rfl rfl rfl (by decide) rfl rfl rfl rfl rfl ?_
  refine walk ?_
  refine k'4 (.addStr (a := u) (b := s) rfl rfl rfl (by omega)) rfl rfl ?_
  refine walk ?_
  refine k'1 [] (c3) rfl rfl rfl rfl rfl rfl rfl (by decide) rfl rfl rfl rfl rfl ?_
  refine walk ?_
  refine k'1f (.addStr (a := a.u) (b := u) rfl rfl rfl (by omega)) rfl rfl rfl rfl ?_
  refine walk ?_
  rw [show (!((a.setU (a.u ++ u)).u == a.u ++ u)) = false by simp [Me.setU]]
  refine walk ?_
  refine k'1f (.addStr (a := u) (b := a.u) rfl rfl rfl (by omega)) rfl rfl rfl rfl ?_
  refine walk ?_
  rw [show (!((a.setU (u ++ a.u)).u == u ++ a.u)) = false by simp [Me.setU]]
  refine walk ?_
  refine k'1 [] (cf) rfl rfl rfl rfl rfl rfl rfl (by decide) rfl rfl rfl rfl rfl ?_
  refine walk ?_
  generalize tagV 536870911 1 ++ le8 x = v at *
  refine k'4 (.addStr (a := v) (b := s) rfl rfl rfl (by omega)) rfl rfl ?_
  refine walk ?_
  refine k'4 (.addStr (a := v ++ s) (b := v) rfl rfl rfl (by simp; omega)) rfl rfl ?_
  refine walk ?_
  refine k'1 [] (c4) rfl rfl rfl rfl rfl rfl rfl (by decide) rfl rfl rfl rfl rfl ?_
  refine walk ?_
  refine k'1 [] (hf) rfl rfl rfl rfl rfl rfl rfl (by decide) rfl rfl rfl rfl rfl ?_
  refine walk ?_
  refine k'6 [] (c5) rfl rfl rfl rfl rfl rfl rfl rfl rfl (by decide) rfl rfl rfl rfl rfl ?_
  refine walk ?_
  refine k'6 [] (c5) rfl rfl rfl rfl rfl rfl rfl rfl rfl (by decide) rfl rfl rfl rfl rfl ?_
  refine walk ?_
  refine k'1f (.addStr (a := v) (b := a.u) rfl rfl rfl (by omega)) rfl rfl rfl rfl ?_
  refine walk ?_
  refine k'1f (.addStr (a := v ++ a.u) (b := v) rfl rfl rfl (by simp; omega)) rfl rfl rfl rfl ?_
  refine walk ?_
  rw [show (((a.setU (v ++ a.u)).setU ((a.setU (v ++ a.u)).u ++ v)).u == v ++ a.u ++ v) = true by simp [Me.setU]]
  exact k'3 trivial (by decide) rfl rfl rfl rfl rfl
end Go.Proofs.YtmnllpkbjkenfaaGreatDoor
