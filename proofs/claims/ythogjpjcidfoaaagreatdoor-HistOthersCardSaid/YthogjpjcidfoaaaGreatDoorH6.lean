/- Hi: records of other types are unknown, wherever they stand. -/
import Derived.Test.YthogjpjcidfoaaaGreatDoorHL
import Derived.Test.YthogjpjcidfoaaaGreatDoorPW
set_option linter.unusedSimpArgs false
set_option linter.unusedVariables false
set_option maxRecDepth 100000
namespace Go.Proofs.YthogjpjcidfoaaaGreatDoor
open Go Go.Abs
variable (B : Fr)
theorem HistOthers_law (hB : BOk B) (s : List UInt8) (hs : s.length ≤ 9223372036854775807) (d : Int) (hd1 : -9223372036854775808 ≤ d) (hd2 : d < 9223372036854775808)
    (num : Int) (hn1 : -9223372036854775808 ≤ num) (hn2 : num < 9223372036854775808) (x : Int) (hx1 : 0 ≤ x) (hx2 : x < 18446744073709551616) :
    CallsA (cx B) 9 [sT s, .d (.int .i64 d), .d (.int .i64 num), .d (.int .u64 x)] [] (.d (.bool true)) [] := by
  obtain ⟨x, rfl⟩ : ∃ n : Nat, x = n := ⟨x.toNat, by omega⟩
  have hf := firstHi_calls B hB
  refine l_body (X := cx B) (fn := Tryz.f9) Tryz.func9 rfl rfl rfl rfl rfl 0 [] rfl rfl ?_
  refine walk ?_
  refine l_call [] (hf) rfl rfl rfl rfl rfl rfl rfl (by decide) rfl rfl rfl rfl rfl ?_
  refine walk ?_
  by_cases h1 : s.length > 6000
  · rw [show decide ((s.length : Int) > 6000) = true from decide_eq_true (by omega)]
    refine walk ?_
    refine l_call [] (hf) rfl rfl rfl rfl rfl rfl rfl (by decide) rfl rfl rfl rfl rfl ?_
    refine walk ?_
    exact l_end trivial (by decide) rfl rfl rfl rfl rfl
  rw [show decide ((s.length : Int) > 6000) = false from decide_eq_false (by omega)]
  refine walk ?_
  by_cases h2 : num < 1
  · rw [show decide (num < 1) = true from decide_eq_true h2]
    refine walk ?_
    refine l_call [] (hf) rfl rfl rfl rfl rfl rfl rfl (by decide) rfl rfl rfl rfl rfl ?_
    refine walk ?_
    exact l_end trivial (by decide) rfl rfl rfl rfl rfl
  rw [show decide (num < 1) = false from decide_eq_false h2]
  refine walk ?_
  by_cases h3 : num ≥ 536870912
  · rw [show decide (num ≥ 536870912) = true from decide_eq_true h3]
    refine walk ?_
    refine l_call [] (hf) rfl rfl rfl rfl rfl rfl rfl (by decide) rfl rfl rfl rfl rfl ?_
    refine walk ?_
    exact l_end trivial (by decide) rfl rfl rfl rfl rfl
  rw [show decide (num ≥ 536870912) = false from decide_eq_false h3]
  refine walk ?_
  obtain ⟨num, rfl⟩ : ∃ n : Nat, num = n := ⟨num.toNat, by omega⟩
  have hu : (tagV num 5 ++ [97, 98, 99, 100]).length ≤ 14 := by have := tagV_len num 5; simp; omega
  have hv : (tagV 536870911 1 ++ le8 x).length ≤ 18 := by have := tagV_len 536870911 1; have := le8_len x; simp; omega
  have hl0 := tagV_len num 5
  have b1 : s.length < big := by unfold big; omega
  have b2 : ∀ {l : List UInt8}, l.length ≤ 7000 → l.length < big := fun h => by unfold big; omega
  have ct := Tag_calls B num 5 (by omega) (by omega) (by omega)
  have cf := Fixed_calls B 536870911 x (by omega) (by omega)
  have anyU : ∀ {u : List UInt8}, u.length < big → ∃ (b : Hi) (y : D), CallsA (cx B) 20 [sT u, .d (.int .i64 d)] [] (.tup [.d b.d, .d y]) [] := fun {u} hu => by
    cases h : okHi u d with
    | some b => exact ⟨_, _, Hi_some B hB hu hd1 hd2 h⟩
    | none => obtain ⟨T, x, h⟩ := Hi_none B hB hu hd1 hd2 h; exact ⟨_, _, h⟩
  have huall : 0 ≤ d → mayU tbH (tagV num 5 ++ [97, 98, 99, 100]) d = true := fun hd => may_one hd (rec_all (recE_f32 d [97, 98, 99, 100] (by omega) (by omega) rfl)) (tbH_5 num)
  have hvall : 0 ≤ d → mayU tbH (tagV 536870911 1 ++ le8 x) d = true := fun hd => may_one hd (rec_all (recE_f64 d (le8 x) (by omega) (by omega) (le8_len x))) (tbH_x)
  cases hok : okHi s d with
  | none =>
    have hleft := okHi_left_none (s := s) huall hok
    obtain ⟨T, y, c1⟩ := Hi_none B hB b1 hd1 hd2 hok
    obtain ⟨y2, x2, c2⟩ := anyU (u := s ++ (tagV num 5 ++ [97, 98, 99, 100])) (b2 (by simp at hu ⊢; omega))
    obtain ⟨T3, x3, c3⟩ := Hi_none B hB (s := (tagV num 5 ++ [97, 98, 99, 100]) ++ s) (b2 (by simp at hu ⊢; omega)) hd1 hd2 hleft
    refine l_call [] (c1) rfl rfl rfl rfl rfl rfl rfl (by decide) rfl rfl rfl rfl rfl ?_
    refine walk ?_
    refine l_call [] (ct) rfl rfl rfl rfl rfl rfl rfl (by decide) rfl rfl rfl rfl rfl ?_
    refine walk ?_
    refine l_step (.addStr (a := tagV num 5) (b := [97, 98, 99, 100]) rfl rfl rfl (by simp; omega)) rfl rfl ?_
    refine walk ?_
    generalize tagV num 5 ++ [97, 98, 99, 100] = u at *
    refine l_step (.addStr (a := s) (b := u) rfl rfl rfl (by omega)) rfl rfl ?_
    refine walk ?_
    refine l_call [] (c2) rfl rfl rfl rfl rfl rfl rfl (by decide) rfl rfl rfl rfl rfl ?_
    refine walk ?_
    refine l_step (.addStr (a := u) (b := s) rfl rfl rfl (by omega)) rfl rfl ?_
    refine walk ?_
    refine l_call [] (c3) rfl rfl rfl rfl rfl rfl rfl (by decide) rfl rfl rfl rfl rfl ?_
    refine walk ?_
    refine l_call [] (hf) rfl rfl rfl rfl rfl rfl rfl (by decide) rfl rfl rfl rfl rfl ?_
    refine walk ?_
    exact l_end trivial (by decide) rfl rfl rfl rfl rfl
  | some a =>
    have hd := okHi_pos hok
    have hU := huall hd
    have hV := hvall hd
    have l1 := okHi_len hok
    have l2 := Hi_told _ _ _ hok
    have e2 := okHi_right hU hok
    have e3 := okHi_left hU hok
    have e4 : okHi (((tagV 536870911 1 ++ le8 x) ++ s) ++ (tagV 536870911 1 ++ le8 x)) d = some ((a.setU ((tagV 536870911 1 ++ le8 x) ++ a.u)).setU ((a.setU ((tagV 536870911 1 ++ le8 x) ++ a.u)).u ++ (tagV 536870911 1 ++ le8 x))) := okHi_right hV (okHi_left hV hok)
    have c1 := Hi_some B hB b1 hd1 hd2 hok
    have c2 := Hi_some B hB (b2 (by simp at hu ⊢; omega)) hd1 hd2 e2
    have c3 := Hi_some B hB (b2 (by simp at hu ⊢; omega)) hd1 hd2 e3
    have c4 := Hi_some B hB (b2 (by simp at hv ⊢; omega)) hd1 hd2 e4
    have c5 := Hi_Same_calls B a a a.d a.d (by unfold big; omega) a.d_R a.d_R
    rw [Hi.eq_self] at c5
    refine l_call [] (c1) rfl rfl rfl rfl rfl rfl rfl (by decide) rfl rfl rfl rfl rfl ?_
    refine walk ?_
    refine l_call [] (ct) rfl rfl rfl rfl rfl rfl rfl (by decide) rfl rfl rfl rfl rfl ?_
    refine walk ?_
    refine l_step (.addStr (a := tagV num 5) (b := [97, 98, 99, 100]) rfl rfl rfl (by simp; omega)) rfl rfl ?_
    refine walk ?_
    generalize tagV num 5 ++ [97, 98, 99, 100] = u at *
    refine l_step (.addStr (a := s) (b := u) rfl rfl rfl (by omega)) rfl rfl ?_
    refine walk ?_
    refine l_call [] (c2) rfl rfl rfl rfl rfl rfl rfl (by decide) rfl rfl rfl rfl rfl ?_
    refine walk ?_
    refine l_step (.addStr (a := u) (b := s) rfl rfl rfl (by omega)) rfl rfl ?_
    refine walk ?_
    refine l_call [] (c3) rfl rfl rfl rfl rfl rfl rfl (by decide) rfl rfl rfl rfl rfl ?_
    refine walk ?_
    refine l_stepG (.addStr (a := a.u) (b := u) rfl rfl rfl (by omega)) rfl rfl rfl rfl ?_
    refine walk ?_
    rw [show (!((a.setU (a.u ++ u)).u == a.u ++ u)) = false by simp [Hi.setU]]
    refine walk ?_
    refine l_stepG (.addStr (a := u) (b := a.u) rfl rfl rfl (by omega)) rfl rfl rfl rfl ?_
    refine walk ?_
    rw [show (!((a.setU (u ++ a.u)).u == u ++ a.u)) = false by simp [Hi.setU]]
    refine walk ?_
    refine l_call [] (cf) rfl rfl rfl rfl rfl rfl rfl (by decide) rfl rfl rfl rfl rfl ?_
    refine walk ?_
    generalize tagV 536870911 1 ++ le8 x = v at *
    refine l_step (.addStr (a := v) (b := s) rfl rfl rfl (by omega)) rfl rfl ?_
    refine walk ?_
    refine l_step (.addStr (a := v ++ s) (b := v) rfl rfl rfl (by simp; omega)) rfl rfl ?_
    refine walk ?_
    refine l_call [] (c4) rfl rfl rfl rfl rfl rfl rfl (by decide) rfl rfl rfl rfl rfl ?_
    refine walk ?_
    refine l_call [] (hf) rfl rfl rfl rfl rfl rfl rfl (by decide) rfl rfl rfl rfl rfl ?_
    refine walk ?_
    refine l_callG [] (c5) rfl rfl rfl rfl rfl rfl rfl rfl rfl (by decide) rfl rfl rfl rfl rfl ?_
    refine walk ?_
    refine l_callG [] (c5) rfl rfl rfl rfl rfl rfl rfl rfl rfl (by decide) rfl rfl rfl rfl rfl ?_
    refine walk ?_
    refine l_stepG (.addStr (a := v) (b := a.u) rfl rfl rfl (by omega)) rfl rfl rfl rfl ?_
    refine walk ?_
    refine l_stepG (.addStr (a := v ++ a.u) (b := v) rfl rfl rfl (by simp; omega)) rfl rfl rfl rfl ?_
    refine walk ?_
    rw [show (((a.setU (v ++ a.u)).setU ((a.setU (v ++ a.u)).u ++ v)).u == v ++ a.u ++ v) = true by simp [Hi.setU]]
    exact l_end trivial (by decide) rfl rfl rfl rfl rfl
end Go.Proofs.YthogjpjcidfoaaaGreatDoor
