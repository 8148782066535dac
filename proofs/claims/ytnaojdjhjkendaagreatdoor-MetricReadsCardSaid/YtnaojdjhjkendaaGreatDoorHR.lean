/- Hist: the reference reads them. -/
import Derived.Test.YtnaojdjhjkendaaGreatDoorER
import Derived.Test.YtnaojdjhjkendaaGreatDoorHP
import Derived.Test.YtnaojdjhjkendaaGreatDoorHL
set_option linter.unusedSimpArgs false
set_option linter.unusedVariables false
set_option maxRecDepth 100000
namespace Go.Proofs.YtnaojdjhjkendaaGreatDoor
open Go Go.Abs
variable (B : Fr)
theorem tabHi_calls : k'5 (cx B) 117 [] [] (.d (.sl false ([17, 25, 33, 41, 49, 50, 57, 58, 66, 74, 80, 89, 97].map iD))) [] := by
 refine l_bw Tryz.func117 0 [] ?_
 (try refine k'h rfl ?_)
 refine k'3 (.buildSlice (es := [17, 25, 33, 41, 49, 50, 57, 58, 66, 74, 80, 89, 97].map iD) rfl rfl rfl rfl rfl rfl (by intro x hx; simp [iD] at hx; rcases hx with rfl | rfl | rfl | rfl | rfl | rfl | rfl | rfl | rfl | rfl | rfl | rfl | rfl <;> rfl) (by decide) (by decide) (by decide)) rfl rfl ?_
 exact O
theorem tbH_big {n k : Nat} (hn : 13 ≤ n) : tbH n k = false := by
 unfold tbH
 simp
 (repeat' split) <;> omega
theorem tk_Hi (n k : Nat) (hk : k < 8) : tkB [17, 25, 33, 41, 49, 50, 57, 58, 66, 74, 80, 89, 97] n k = tbH n k := by
 by_cases hn : n < 13
 ·exact (by decide : ∀ n < 13, ∀ k < 8, tkB [17, 25, 33, 41, 49, 50, 57, 58, 66, 74, 80, 89, 97] n k = tbH n k) n hn k hk
 ·rw [show tkB [17, 25, 33, 41, 49, 50, 57, 58, 66, 74, 80, 89, 97] n k = false by unfold tkB; simp; omega, tbH_big (by omega)]
theorem tbH_num {n k : Nat} (hk : k < 8) (h : tbH n k = true) : n = 2 ∨ n = 3 ∨ n = 4 ∨ n = 5 ∨ n = 6 ∨ n = 7 ∨ n = 8 ∨ n = 9 ∨ n = 10 ∨ n = 11 ∨ n = 12 := by
 by_cases hn : n < 13
 ·have := (by decide : ∀ n < 13, ∀ k < 8, tbH n k = true → [2, 3, 4, 5, 6, 7, 8, 9, 10, 11, 12].contains n = true) n hn k hk h
  simp at this
  omega
 ·rw [tbH_big (by omega)] at h; simp at h
def k'3k (d : Int) (l : List Fld) (b : Hi) : Prop := (k'7 (fun s => okK s (d - 1)) 9 (k'1 tbH l) = some b.attrs) ∧ (b.attrs.length ≤ (k'1 tbH l).length) ∧ (b.start = (k'a (k'1 tbH l) 2).n) ∧ (b.time = (k'a (k'1 tbH l) 3).n) ∧ (b.count = (k'a (k'1 tbH l) 4).n) ∧ (b.sumH = hasL (k'1 tbH l) 5) ∧ (b.sum = (k'a (k'1 tbH l) 5).n) ∧ (b.minH = hasL (k'1 tbH l) 11) ∧ (b.min = (k'a (k'1 tbH l) 11).n) ∧ (b.maxH = hasL (k'1 tbH l) 12) ∧ (b.max = (k'a (k'1 tbH l) 12).n) ∧ (k'p fixs 6 (k'1 tbH l) = some b.counts) ∧ (k'p fixs 7 (k'1 tbH l) = some b.bounds) ∧ (k'7 (fun s => okEm s (d - 1)) 8 (k'1 tbH l) = some b.exs) ∧ (b.exs.length ≤ (k'1 tbH l).length) ∧ (b.flags = (k'a (k'1 tbH l) 10).n % 4294967296) ∧ b.u = unkL tbH l
theorem RE_Hi_unk {d : Int} {l : List Fld} {b : Hi} {x : Fld} (h : k'3k d l b) (hx : tbH x.num x.kind = false) : k'3k d (l ++ [x]) { b with u := b.u ++ x.raw } := by
 obtain ⟨h_attrs, l_attrs, h_start, h_time, h_count, h_sum, l_sum, h_min, l_min, h_max, l_max, h_counts, h_bounds, h_exs, l_exs, h_flags, h_u⟩ := h
 have e1 : k'1 tbH (l ++ [x]) = k'1 tbH l := by rw [k'4, show isT tbH x = false from hx]; simp
 have e2 : unkL tbH (l ++ [x]) = unkL tbH l ++ x.raw := by rw [k'6, show isT tbH x = false from hx]; rfl
 unfold k'3k
 rw [e1, e2]
 exact ⟨h_attrs, l_attrs, h_start, h_time, h_count, h_sum, l_sum, h_min, l_min, h_max, l_max, h_counts, h_bounds, h_exs, l_exs, h_flags, by rw [← h_u]⟩
theorem RE_Hi_2 {d : Int} {l : List Fld} {b : Hi} {x : Fld} (h : k'3k d l b) (hx : tbH x.num x.kind = true) (hn : x.num = 2) : k'3k d (l ++ [x]) { b with start := x.n } := by
 obtain ⟨h_attrs, l_attrs, h_start, h_time, h_count, h_sum, l_sum, h_min, l_min, h_max, l_max, h_counts, h_bounds, h_exs, l_exs, h_flags, h_u⟩ := h
 have e1 : k'1 tbH (l ++ [x]) = k'1 tbH l ++ [x] := by rw [k'4, show isT tbH x = true from hx]; rfl
 have e2 : unkL tbH (l ++ [x]) = unkL tbH l := by rw [k'6, show isT tbH x = true from hx]; simp
 unfold k'3k
 rw [e1, e2]
 exact ⟨by rw [k'2 h_attrs, if_neg (by omega)], by simp; omega, by rw [k'0, if_pos hn], by rw [k'0, if_neg (by omega)]; exact h_time, by rw [k'0, if_neg (by omega)]; exact h_count, by unfold hasL; rw [k'0, if_neg (by omega)]; exact h_sum, by rw [k'0, if_neg (by omega)]; exact l_sum, by unfold hasL; rw [k'0, if_neg (by omega)]; exact h_min, by rw [k'0, if_neg (by omega)]; exact l_min, by unfold hasL; rw [k'0, if_neg (by omega)]; exact h_max, by rw [k'0, if_neg (by omega)]; exact l_max, by have := k'k (b := [x]) (y := []) h_counts (by unfold k'p; rw [if_neg (by omega)]; rfl); rw [List.append_nil] at this; exact this, by have := k'k (b := [x]) (y := []) h_bounds (by unfold k'p; rw [if_neg (by omega)]; rfl); rw [List.append_nil] at this; exact this, by rw [k'2 h_exs, if_neg (by omega)], by simp; omega, by rw [k'0, if_neg (by omega)]; exact h_flags, h_u⟩
theorem RE_Hi_3 {d : Int} {l : List Fld} {b : Hi} {x : Fld} (h : k'3k d l b) (hx : tbH x.num x.kind = true) (hn : x.num = 3) : k'3k d (l ++ [x]) { b with time := x.n } := by
 obtain ⟨h_attrs, l_attrs, h_start, h_time, h_count, h_sum, l_sum, h_min, l_min, h_max, l_max, h_counts, h_bounds, h_exs, l_exs, h_flags, h_u⟩ := h
 have e1 : k'1 tbH (l ++ [x]) = k'1 tbH l ++ [x] := by rw [k'4, show isT tbH x = true from hx]; rfl
 have e2 : unkL tbH (l ++ [x]) = unkL tbH l := by rw [k'6, show isT tbH x = true from hx]; simp
 unfold k'3k
 rw [e1, e2]
 exact ⟨by rw [k'2 h_attrs, if_neg (by omega)], by simp; omega, by rw [k'0, if_neg (by omega)]; exact h_start, by rw [k'0, if_pos hn], by rw [k'0, if_neg (by omega)]; exact h_count, by unfold hasL; rw [k'0, if_neg (by omega)]; exact h_sum, by rw [k'0, if_neg (by omega)]; exact l_sum, by unfold hasL; rw [k'0, if_neg (by omega)]; exact h_min, by rw [k'0, if_neg (by omega)]; exact l_min, by unfold hasL; rw [k'0, if_neg (by omega)]; exact h_max, by rw [k'0, if_neg (by omega)]; exact l_max, by have := k'k (b := [x]) (y := []) h_counts (by unfold k'p; rw [if_neg (by omega)]; rfl); rw [List.append_nil] at this; exact this, by have := k'k (b := [x]) (y := []) h_bounds (by unfold k'p; rw [if_neg (by omega)]; rfl); rw [List.append_nil] at this; exact this, by rw [k'2 h_exs, if_neg (by omega)], by simp; omega, by rw [k'0, if_neg (by omega)]; exact h_flags, h_u⟩
theorem RE_Hi_4 {d : Int} {l : List Fld} {b : Hi} {x : Fld} (h : k'3k d l b) (hx : tbH x.num x.kind = true) (hn : x.num = 4) : k'3k d (l ++ [x]) { b with count := x.n } := by
 obtain ⟨h_attrs, l_attrs, h_start, h_time, h_count, h_sum, l_sum, h_min, l_min, h_max, l_max, h_counts, h_bounds, h_exs, l_exs, h_flags, h_u⟩ := h
 have e1 : k'1 tbH (l ++ [x]) = k'1 tbH l ++ [x] := by rw [k'4, show isT tbH x = true from hx]; rfl
 have e2 : unkL tbH (l ++ [x]) = unkL tbH l := by rw [k'6, show isT tbH x = true from hx]; simp
 unfold k'3k
 rw [e1, e2]
 exact ⟨by rw [k'2 h_attrs, if_neg (by omega)], by simp; omega, by rw [k'0, if_neg (by omega)]; exact h_start, by rw [k'0, if_neg (by omega)]; exact h_time, by rw [k'0, if_pos hn], by unfold hasL; rw [k'0, if_neg (by omega)]; exact h_sum, by rw [k'0, if_neg (by omega)]; exact l_sum, by unfold hasL; rw [k'0, if_neg (by omega)]; exact h_min, by rw [k'0, if_neg (by omega)]; exact l_min, by unfold hasL; rw [k'0, if_neg (by omega)]; exact h_max, by rw [k'0, if_neg (by omega)]; exact l_max, by have := k'k (b := [x]) (y := []) h_counts (by unfold k'p; rw [if_neg (by omega)]; rfl); rw [List.append_nil] at this; exact this, by have := k'k (b := [x]) (y := []) h_bounds (by unfold k'p; rw [if_neg (by omega)]; rfl); rw [List.append_nil] at this; exact this, by rw [k'2 h_exs, if_neg (by omega)], by simp; omega, by rw [k'0, if_neg (by omega)]; exact h_flags, h_u⟩
theorem RE_Hi_5 {d : Int} {l : List Fld} {b : Hi} {x : Fld} (h : k'3k d l b) (hx : tbH x.num x.kind = true) (hn : x.num = 5) : k'3k d (l ++ [x]) { b with sumH := true, sum := x.n } := by
 obtain ⟨h_attrs, l_attrs, h_start, h_time, h_count, h_sum, l_sum, h_min, l_min, h_max, l_max, h_counts, h_bounds, h_exs, l_exs, h_flags, h_u⟩ := h
 have e1 : k'1 tbH (l ++ [x]) = k'1 tbH l ++ [x] := by rw [k'4, show isT tbH x = true from hx]; rfl
 have e2 : unkL tbH (l ++ [x]) = unkL tbH l := by rw [k'6, show isT tbH x = true from hx]; simp
 unfold k'3k
 rw [e1, e2]
 exact ⟨by rw [k'2 h_attrs, if_neg (by omega)], by simp; omega, by rw [k'0, if_neg (by omega)]; exact h_start, by rw [k'0, if_neg (by omega)]; exact h_time, by rw [k'0, if_neg (by omega)]; exact h_count, by unfold hasL; rw [k'0, if_pos hn, hn]; rfl, by rw [k'0, if_pos hn], by unfold hasL; rw [k'0, if_neg (by omega)]; exact h_min, by rw [k'0, if_neg (by omega)]; exact l_min, by unfold hasL; rw [k'0, if_neg (by omega)]; exact h_max, by rw [k'0, if_neg (by omega)]; exact l_max, by have := k'k (b := [x]) (y := []) h_counts (by unfold k'p; rw [if_neg (by omega)]; rfl); rw [List.append_nil] at this; exact this, by have := k'k (b := [x]) (y := []) h_bounds (by unfold k'p; rw [if_neg (by omega)]; rfl); rw [List.append_nil] at this; exact this, by rw [k'2 h_exs, if_neg (by omega)], by simp; omega, by rw [k'0, if_neg (by omega)]; exact h_flags, h_u⟩
theorem RE_Hi_6 {d : Int} {l : List Fld} {b : Hi} {x : Fld} {v : List Nat} (hv : k'p fixs 6 [x] = some v) (h : k'3k d l b) (hx : tbH x.num x.kind = true) (hn : x.num = 6) : k'3k d (l ++ [x]) { b with counts := b.counts ++ v } := by
 obtain ⟨h_attrs, l_attrs, h_start, h_time, h_count, h_sum, l_sum, h_min, l_min, h_max, l_max, h_counts, h_bounds, h_exs, l_exs, h_flags, h_u⟩ := h
 have e1 : k'1 tbH (l ++ [x]) = k'1 tbH l ++ [x] := by rw [k'4, show isT tbH x = true from hx]; rfl
 have e2 : unkL tbH (l ++ [x]) = unkL tbH l := by rw [k'6, show isT tbH x = true from hx]; simp
 unfold k'3k
 rw [e1, e2]
 exact ⟨by rw [k'2 h_attrs, if_neg (by omega)], by simp; omega, by rw [k'0, if_neg (by omega)]; exact h_start, by rw [k'0, if_neg (by omega)]; exact h_time, by rw [k'0, if_neg (by omega)]; exact h_count, by unfold hasL; rw [k'0, if_neg (by omega)]; exact h_sum, by rw [k'0, if_neg (by omega)]; exact l_sum, by unfold hasL; rw [k'0, if_neg (by omega)]; exact h_min, by rw [k'0, if_neg (by omega)]; exact l_min, by unfold hasL; rw [k'0, if_neg (by omega)]; exact h_max, by rw [k'0, if_neg (by omega)]; exact l_max, k'k h_counts hv, by have := k'k (b := [x]) (y := []) h_bounds (by unfold k'p; rw [if_neg (by omega)]; rfl); rw [List.append_nil] at this; exact this, by rw [k'2 h_exs, if_neg (by omega)], by simp; omega, by rw [k'0, if_neg (by omega)]; exact h_flags, h_u⟩
theorem RE_Hi_7 {d : Int} {l : List Fld} {b : Hi} {x : Fld} {v : List Nat} (hv : k'p fixs 7 [x] = some v) (h : k'3k d l b) (hx : tbH x.num x.kind = true) (hn : x.num = 7) : k'3k d (l ++ [x]) { b with bounds := b.bounds ++ v } := by
 obtain ⟨h_attrs, l_attrs, h_start, h_time, h_count, h_sum, l_sum, h_min, l_min, h_max, l_max, h_counts, h_bounds, h_exs, l_exs, h_flags, h_u⟩ := h
 have e1 : k'1 tbH (l ++ [x]) = k'1 tbH l ++ [x] := by rw [k'4, show isT tbH x = true from hx]; rfl
 have e2 : unkL tbH (l ++ [x]) = unkL tbH l := by rw [k'6, show isT tbH x = true from hx]; simp
 unfold k'3k
 rw [e1, e2]
 exact ⟨by rw [k'2 h_attrs, if_neg (by omega)], by simp; omega, by rw [k'0, if_neg (by omega)]; exact h_start, by rw [k'0, if_neg (by omega)]; exact h_time, by rw [k'0, if_neg (by omega)]; exact h_count, by unfold hasL; rw [k'0, if_neg (by omega)]; exact h_sum, by rw [k'0, if_neg (by omega)]; exact l_sum, by unfold hasL; rw [k'0, if_neg (by omega)]; exact h_min, by rw [k'0, if_neg (by omega)]; exact l_min, by unfold hasL; rw [k'0, if_neg (by omega)]; exact h_max, by rw [k'0, if_neg (by omega)]; exact l_max, by have := k'k (b := [x]) (y := []) h_counts (by unfold k'p; rw [if_neg (by omega)]; rfl); rw [List.append_nil] at this; exact this, k'k h_bounds hv, by rw [k'2 h_exs, if_neg (by omega)], by simp; omega, by rw [k'0, if_neg (by omega)]; exact h_flags, h_u⟩
theorem RE_Hi_8 {d : Int} {l : List Fld} {b : Hi} {x : Fld} {v : Em} (hv : okEm x.s (d - 1) = some v) (h : k'3k d l b) (hx : tbH x.num x.kind = true) (hn : x.num = 8) : k'3k d (l ++ [x]) { b with exs := b.exs ++ [v] } := by
 obtain ⟨h_attrs, l_attrs, h_start, h_time, h_count, h_sum, l_sum, h_min, l_min, h_max, l_max, h_counts, h_bounds, h_exs, l_exs, h_flags, h_u⟩ := h
 have e1 : k'1 tbH (l ++ [x]) = k'1 tbH l ++ [x] := by rw [k'4, show isT tbH x = true from hx]; rfl
 have e2 : unkL tbH (l ++ [x]) = unkL tbH l := by rw [k'6, show isT tbH x = true from hx]; simp
 unfold k'3k
 rw [e1, e2]
 exact ⟨by rw [k'2 h_attrs, if_neg (by omega)], by simp; omega, by rw [k'0, if_neg (by omega)]; exact h_start, by rw [k'0, if_neg (by omega)]; exact h_time, by rw [k'0, if_neg (by omega)]; exact h_count, by unfold hasL; rw [k'0, if_neg (by omega)]; exact h_sum, by rw [k'0, if_neg (by omega)]; exact l_sum, by unfold hasL; rw [k'0, if_neg (by omega)]; exact h_min, by rw [k'0, if_neg (by omega)]; exact l_min, by unfold hasL; rw [k'0, if_neg (by omega)]; exact h_max, by rw [k'0, if_neg (by omega)]; exact l_max, by have := k'k (b := [x]) (y := []) h_counts (by unfold k'p; rw [if_neg (by omega)]; rfl); rw [List.append_nil] at this; exact this, by have := k'k (b := [x]) (y := []) h_bounds (by unfold k'p; rw [if_neg (by omega)]; rfl); rw [List.append_nil] at this; exact this, by rw [k'2 h_exs, if_pos hn, hv], by simp; omega, by rw [k'0, if_neg (by omega)]; exact h_flags, h_u⟩
theorem RE_Hi_9 {d : Int} {l : List Fld} {b : Hi} {x : Fld} {v : Kv} (hv : okK x.s (d - 1) = some v) (h : k'3k d l b) (hx : tbH x.num x.kind = true) (hn : x.num = 9) : k'3k d (l ++ [x]) { b with attrs := b.attrs ++ [v] } := by
 obtain ⟨h_attrs, l_attrs, h_start, h_time, h_count, h_sum, l_sum, h_min, l_min, h_max, l_max, h_counts, h_bounds, h_exs, l_exs, h_flags, h_u⟩ := h
 have e1 : k'1 tbH (l ++ [x]) = k'1 tbH l ++ [x] := by rw [k'4, show isT tbH x = true from hx]; rfl
 have e2 : unkL tbH (l ++ [x]) = unkL tbH l := by rw [k'6, show isT tbH x = true from hx]; simp
 unfold k'3k
 rw [e1, e2]
 exact ⟨by rw [k'2 h_attrs, if_pos hn, hv], by simp; omega, by rw [k'0, if_neg (by omega)]; exact h_start, by rw [k'0, if_neg (by omega)]; exact h_time, by rw [k'0, if_neg (by omega)]; exact h_count, by unfold hasL; rw [k'0, if_neg (by omega)]; exact h_sum, by rw [k'0, if_neg (by omega)]; exact l_sum, by unfold hasL; rw [k'0, if_neg (by omega)]; exact h_min, by rw [k'0, if_neg (by omega)]; exact l_min, by unfold hasL; rw [k'0, if_neg (by omega)]; exact h_max, by rw [k'0, if_neg (by omega)]; exact l_max, by have := k'k (b := [x]) (y := []) h_counts (by unfold k'p; rw [if_neg (by omega)]; rfl); rw [List.append_nil] at this; exact this, by have := k'k (b := [x]) (y := []) h_bounds (by unfold k'p; rw [if_neg (by omega)]; rfl); rw [List.append_nil] at this; exact this, by rw [k'2 h_exs, if_neg (by omega)], by simp; omega, by rw [k'0, if_neg (by omega)]; exact h_flags, h_u⟩
theorem RE_Hi_10 {d : Int} {l : List Fld} {b : Hi} {x : Fld} (h : k'3k d l b) (hx : tbH x.num x.kind = true) (hn : x.num = 10) : k'3k d (l ++ [x]) { b with flags := x.n % 4294967296 } := by
 obtain ⟨h_attrs, l_attrs, h_start, h_time, h_count, h_sum, l_sum, h_min, l_min, h_max, l_max, h_counts, h_bounds, h_exs, l_exs, h_flags, h_u⟩ := h
 have e1 : k'1 tbH (l ++ [x]) = k'1 tbH l ++ [x] := by rw [k'4, show isT tbH x = true from hx]; rfl
 have e2 : unkL tbH (l ++ [x]) = unkL tbH l := by rw [k'6, show isT tbH x = true from hx]; simp
 unfold k'3k
 rw [e1, e2]
 exact ⟨by rw [k'2 h_attrs, if_neg (by omega)], by simp; omega, by rw [k'0, if_neg (by omega)]; exact h_start, by rw [k'0, if_neg (by omega)]; exact h_time, by rw [k'0, if_neg (by omega)]; exact h_count, by unfold hasL; rw [k'0, if_neg (by omega)]; exact h_sum, by rw [k'0, if_neg (by omega)]; exact l_sum, by unfold hasL; rw [k'0, if_neg (by omega)]; exact h_min, by rw [k'0, if_neg (by omega)]; exact l_min, by unfold hasL; rw [k'0, if_neg (by omega)]; exact h_max, by rw [k'0, if_neg (by omega)]; exact l_max, by have := k'k (b := [x]) (y := []) h_counts (by unfold k'p; rw [if_neg (by omega)]; rfl); rw [List.append_nil] at this; exact this, by have := k'k (b := [x]) (y := []) h_bounds (by unfold k'p; rw [if_neg (by omega)]; rfl); rw [List.append_nil] at this; exact this, by rw [k'2 h_exs, if_neg (by omega)], by simp; omega, by rw [k'0, if_pos hn], h_u⟩
theorem RE_Hi_11 {d : Int} {l : List Fld} {b : Hi} {x : Fld} (h : k'3k d l b) (hx : tbH x.num x.kind = true) (hn : x.num = 11) : k'3k d (l ++ [x]) { b with minH := true, min := x.n } := by
 obtain ⟨h_attrs, l_attrs, h_start, h_time, h_count, h_sum, l_sum, h_min, l_min, h_max, l_max, h_counts, h_bounds, h_exs, l_exs, h_flags, h_u⟩ := h
 have e1 : k'1 tbH (l ++ [x]) = k'1 tbH l ++ [x] := by rw [k'4, show isT tbH x = true from hx]; rfl
 have e2 : unkL tbH (l ++ [x]) = unkL tbH l := by rw [k'6, show isT tbH x = true from hx]; simp
 unfold k'3k
 rw [e1, e2]
 exact ⟨by rw [k'2 h_attrs, if_neg (by omega)], by simp; omega, by rw [k'0, if_neg (by omega)]; exact h_start, by rw [k'0, if_neg (by omega)]; exact h_time, by rw [k'0, if_neg (by omega)]; exact h_count, by unfold hasL; rw [k'0, if_neg (by omega)]; exact h_sum, by rw [k'0, if_neg (by omega)]; exact l_sum, by unfold hasL; rw [k'0, if_pos hn, hn]; rfl, by rw [k'0, if_pos hn], by unfold hasL; rw [k'0, if_neg (by omega)]; exact h_max, by rw [k'0, if_neg (by omega)]; exact l_max, by have := k'k (b := [x]) (y := []) h_counts (by unfold k'p; rw [if_neg (by omega)]; rfl); rw [List.append_nil] at this; exact this, by have := k'k (b := [x]) (y := []) h_bounds (by unfold k'p; rw [if_neg (by omega)]; rfl); rw [List.append_nil] at this; exact this, by rw [k'2 h_exs, if_neg (by omega)], by simp; omega, by rw [k'0, if_neg (by omega)]; exact h_flags, h_u⟩
theorem RE_Hi_12 {d : Int} {l : List Fld} {b : Hi} {x : Fld} (h : k'3k d l b) (hx : tbH x.num x.kind = true) (hn : x.num = 12) : k'3k d (l ++ [x]) { b with maxH := true, max := x.n } := by
 obtain ⟨h_attrs, l_attrs, h_start, h_time, h_count, h_sum, l_sum, h_min, l_min, h_max, l_max, h_counts, h_bounds, h_exs, l_exs, h_flags, h_u⟩ := h
 have e1 : k'1 tbH (l ++ [x]) = k'1 tbH l ++ [x] := by rw [k'4, show isT tbH x = true from hx]; rfl
 have e2 : unkL tbH (l ++ [x]) = unkL tbH l := by rw [k'6, show isT tbH x = true from hx]; simp
 unfold k'3k
 rw [e1, e2]
 exact ⟨by rw [k'2 h_attrs, if_neg (by omega)], by simp; omega, by rw [k'0, if_neg (by omega)]; exact h_start, by rw [k'0, if_neg (by omega)]; exact h_time, by rw [k'0, if_neg (by omega)]; exact h_count, by unfold hasL; rw [k'0, if_neg (by omega)]; exact h_sum, by rw [k'0, if_neg (by omega)]; exact l_sum, by unfold hasL; rw [k'0, if_neg (by omega)]; exact h_min, by rw [k'0, if_neg (by omega)]; exact l_min, by unfold hasL; rw [k'0, if_pos hn, hn]; rfl, by rw [k'0, if_pos hn], by have := k'k (b := [x]) (y := []) h_counts (by unfold k'p; rw [if_neg (by omega)]; rfl); rw [List.append_nil] at this; exact this, by have := k'k (b := [x]) (y := []) h_bounds (by unfold k'p; rw [if_neg (by omega)]; rfl); rw [List.append_nil] at this; exact this, by rw [k'2 h_exs, if_neg (by omega)], by simp; omega, by rw [k'0, if_neg (by omega)]; exact h_flags, h_u⟩
theorem RE_Hi_fin {d : Int} {l : List Fld} {b : Hi} (h : k'3k d l b) : (k'45 d (k'1 tbH l)).map (fun f => f (unkL tbH l)) = some b := by
 obtain ⟨h_attrs, l_attrs, h_start, h_time, h_count, h_sum, l_sum, h_min, l_min, h_max, l_max, h_counts, h_bounds, h_exs, l_exs, h_flags, h_u⟩ := h
 obtain ⟨attrs, start, time, count, sumH, sum, minH, min, maxH, max, counts, bounds, exs, flags, u⟩ := b
 dsimp only at *
 unfold k'45
 simp only [h_attrs, h_exs, h_counts, h_bounds, Option.map_some]
 rw [h_start]; rw [h_time]; rw [h_count]; rw [h_flags]; rw [h_sum, l_sum]; rw [h_min, l_min]; rw [h_max, l_max]; rw [h_u]
theorem tellHi_no_attrs {d : Int} {l : List Fld} (h : k'7 (fun s => okK s (d - 1)) 9 (k'1 tbH l) = none) : (k'45 d (k'1 tbH l)).map (fun f => f (unkL tbH l)) = none := by
 unfold k'45
 rw [h]
 (repeat' split) <;> first | rfl | simp_all
theorem tellHi_no_exs {d : Int} {l : List Fld} (h : k'7 (fun s => okEm s (d - 1)) 8 (k'1 tbH l) = none) : (k'45 d (k'1 tbH l)).map (fun f => f (unkL tbH l)) = none := by
 unfold k'45
 rw [h]
 (repeat' split) <;> first | rfl | simp_all
theorem tellHi_no_counts {d : Int} {l : List Fld} (h : k'p fixs 6 (k'1 tbH l) = none) : (k'45 d (k'1 tbH l)).map (fun f => f (unkL tbH l)) = none := by
 unfold k'45
 rw [h]
 (repeat' split) <;> first | rfl | simp_all
theorem tellHi_no_bounds {d : Int} {l : List Fld} (h : k'p fixs 7 (k'1 tbH l) = none) : (k'45 d (k'1 tbH l)).map (fun f => f (unkL tbH l)) = none := by
 unfold k'45
 rw [h]
 (repeat' split) <;> first | rfl | simp_all
def HiC (b : Hi) : List T := [owT ((b.attrs.map Kv.sh).map KVs.d), .d (.int .u64 b.start), .d (.int .u64 b.time), .d (.int .u64 b.count), .d (.bool b.sumH), .d (.int .u64 b.sum), .d (.bool b.minH), .d (.int .u64 b.min), .d (.bool b.maxH), .d (.int .u64 b.max), owT (b.counts.map uD), owT (b.bounds.map uD), owT (b.exs.map Em.d), .d (.int .u32 b.flags), sT b.u]
def rHiT (o : Option Hi) : T := match o with | some v => .tup [.d v.d, .d (.bool true)] | none => .tup [.d noHi.d, .d (.bool false)]
theorem ReadHi_calls (s : List UInt8) (d : Int) (hl : s.length < big) (hd1 : -9223372036854775808 ≤ d) (hd2 : d < 9223372036854775808) : k'5 (cx B) 102 [sT s, .d (.int .i64 d)] [] (rHiT (okHi s d)) [] := by
 have h1 := k'v B s d hl hd1 hd2
 have hl' := hl
 unfold big at hl'
 unfold okHi
 rw [okG_L]
 unfold k'2l at h1
 cases ho : okL s d with
 | none =>
  rw [ho] at h1
  dsimp only at h1 ⊢
  unfold rHiT
  refine l_bw Tryz.func102 0 [] ?_
  refine l_cw [] (h1) rfl rfl rfl ?_
  refine k'1w (fun _ : Unit => 0) (fun _ => [(4, .ptr 0 0), (5, .d (.bool false)), (6, .d (.sl true [])), (7, .d (.bool false)), (8, .ptr 1 0), (9, iT 0)]) (fun _ => [.mu (noHi.d.cells.map T.d), .mu (noHi.d.cells.map T.d)]) (fun _ => True) () trivial ⟨rfl, rfl, rfl, rfl, rfl, rfl, trivial⟩ ⟨⟨.inr (.inr (.inl ⟨_, _, rfl, rfl⟩)), .inr (.inl rfl), .inr (.inl rfl), .inr (.inl rfl), .inr (.inl rfl), .inr (.inl rfl), .inr (.inl rfl), .inr (.inl rfl), .inr (.inl rfl), .inr (.inl rfl), .inr (.inr (.inl ⟨_, _, rfl, rfl⟩)), .inr (.inr (.inl ⟨_, _, rfl, rfl⟩)), .inr (.inr (.inl ⟨_, _, rfl, rfl⟩)), .inr (.inl rfl), .inr (.inl rfl), trivial⟩, WkC.refl _, trivial⟩ rfl 2 rfl (fun _ => rfl) (fun _ => rfl) (fun _ => rfl) ?_
  intro _ _
  exact O
 | some l =>
  rw [ho] at h1
  obtain ⟨w1, w2⟩ := k'47 ho
  obtain ⟨-, -, -, hd0⟩ := k'1n ho
  dsimp only at h1 ⊢
  have hlen : (l.map Fld.d).length = l.length := by simp
  have hlok : LOk l := ⟨w2, by unfold big; omega⟩
  have hlb := hlok.len
  generalize hRR : (k'45 d (k'1 tbH l)).map (fun f => f (unkL tbH l)) = RR
  refine l_bw Tryz.func102 0 [] ?_
  refine l_cw [] (h1) rfl rfl rfl ?_
  refine k'1w (fun y : Nat × Bool × Hi => l.length - y.1) (fun y => [(1, .d (.int .i64 d)), (4, .ptr 0 0), (5, .d (.bool false)), (6, .d (slD (l.map Fld.d))), (7, .d (.bool y.2.1)), (8, .ptr 1 0), (9, iT y.1)])
   (fun y => [.mu (noHi.d.cells.map T.d), .mu (HiC y.2.2)])
   (fun y => y.1 ≤ l.length ∧ (y.2.1 = true → k'3k d (l.take y.1) y.2.2) ∧ (y.2.1 = false → RR = none)) (0, true, noHi)
   ⟨by omega, fun _ => by rw [List.take_zero]; exact ⟨rfl, by simp [noHi], rfl, rfl, rfl, rfl, rfl, rfl, rfl, rfl, rfl, rfl, rfl, rfl, by simp [noHi], rfl, rfl⟩, fun h => by simp at h⟩ ⟨rfl, rfl, rfl, rfl, rfl, rfl, rfl, trivial⟩ ?_ rfl 2 rfl (fun _ => rfl) (fun _ => rfl) (fun _ => rfl) ?_
  ·exact ⟨⟨.inr (.inr (.inl ⟨_, _, rfl, rfl⟩)), .inr (.inl rfl), .inr (.inl rfl), .inr (.inl rfl), .inr (.inl rfl), .inr (.inl rfl), .inr (.inl rfl), .inr (.inl rfl), .inr (.inl rfl), .inr (.inl rfl), .inr (.inr (.inl ⟨_, _, rfl, rfl⟩)), .inr (.inr (.inl ⟨_, _, rfl, rfl⟩)), .inr (.inr (.inl ⟨_, _, rfl, rfl⟩)), .inr (.inl rfl), .inr (.inl rfl), trivial⟩, ⟨.inr (.inr (.inr ⟨rfl, rfl⟩)), .inr (.inl rfl), .inr (.inl rfl), .inr (.inl rfl), .inr (.inl rfl), .inr (.inl rfl), .inr (.inl rfl), .inr (.inl rfl), .inr (.inl rfl), .inr (.inl rfl), .inr (.inr (.inr ⟨rfl, rfl⟩)), .inr (.inr (.inr ⟨rfl, rfl⟩)), .inr (.inr (.inr ⟨rfl, rfl⟩)), .inr (.inl rfl), .inr (.inl rfl), trivial⟩, trivial⟩
  rintro ⟨i, ok, b⟩ ⟨i1, i2, i3⟩
  dsimp only at i1 i2 i3 ⊢
  have hwi : i < l.length → IntKind.i64.wrap ((i : Int) + 1) = ((i + 1 : Nat) : Int) := fun h => by rw [k'1b (by omega) (by omega)]; omega
  by_cases hlt : i < l.length
  ·cases ok
   ·refine Z ?_
    rw [hlen, show decide ((i : Int) < l.length) = true from decide_eq_true (by omega)]
    refine Z ?_
    rw [i3 rfl]
    unfold rHiT
    exact k'j rfl
   have hre := i2 rfl
   obtain ⟨x, hx⟩ : ∃ x, l[i]? = some x := ⟨_, List.getElem?_eq_getElem hlt⟩
   have hdx : (l.map Fld.d)[i]? = some x.d := by rw [List.getElem?_map, hx]; rfl
   have htk : l.take (i + 1) = l.take i ++ [x] := by rw [List.take_add_one, hx]; rfl
   obtain ⟨hfx, hwx⟩ := k'1x hlok hx
   have hwt := k'1u l i
   have hul : b.u.length ≤ wt (l.take i) := by
    obtain ⟨h_attrs, l_attrs, h_start, h_time, h_count, h_sum, l_sum, h_min, l_min, h_max, l_max, h_counts, h_bounds, h_exs, l_exs, h_flags, h_u⟩ := hre
    rw [h_u]; exact k'1y _ _
   have hkl : (k'1 tbH (l.take i)).length ≤ l.length := Nat.le_trans (List.length_filter_le _ _) (by rw [List.length_take]; omega)
   have ht := k'14 B [17, 25, 33, 41, 49, 50, 57, 58, 66, 74, 80, 89, 97] x (by decide) (by intro t ht; simp at ht; omega)
   rw [tk_Hi _ _ hfx.kind] at ht
   have hxs : x.s.length < big := by have := hfx.s; unfold big; omega
   refine Z ?_
   rw [hlen, show decide ((i : Int) < l.length) = true from decide_eq_true (by omega)]
   refine Z ?_
   refine k'3 (.indexAddr (k := .i64) (n := i) (es := l.map Fld.d) (u := x.d) rfl rfl rfl rfl (.inl ⟨_, rfl⟩) rfl (by omega) (by simpa using hdx) rfl (by decide)) rfl rfl ?_
   refine Z ?_
   refine x_cw [] (tabHi_calls B) rfl rfl rfl ?_
   refine x_cw [] (ht) rfl rfl rfl ?_
   cases hb : tbH x.num x.kind
   ·have hk := RE_Hi_unk hre hb
    rw [← htk] at hk
    refine Z ?_
    refine k'3 (.addStr rfl rfl rfl (by omega)) rfl rfl ?_
    refine Z ?_
    rw [hwi hlt]
    exact ⟨(i + 1, true, { b with u := b.u ++ x.raw }), by show l.length - (i + 1) < _; omega, ⟨by show i + 1 ≤ _; omega, fun _ => hk, fun h => by simp at h⟩, ⟨rfl, rfl, rfl, rfl, rfl, rfl, rfl, trivial⟩, rfl, k'g rfl⟩
   have hnum := tbH_num hfx.kind hb
   have hcut : ∀ (ok : List UInt8 → Option Unit), True := fun _ => trivial
   obtain ⟨xn, xk, xv, xs, xr⟩ := x
   dsimp only at *
   refine Z ?_
   rcases hnum with rfl | rfl | rfl | rfl | rfl | rfl | rfl | rfl | rfl | rfl | rfl
   ·have hk := RE_Hi_2 (x := ⟨2, xk, xv, xs, xr⟩) hre hb rfl
    rw [← htk] at hk
    refine Z ?_
    rw [hwi hlt]
    exact ⟨(i + 1, true, { b with start := xv }), by show l.length - (i + 1) < _; omega, ⟨by show i + 1 ≤ _; omega, fun _ => hk, fun h => by simp at h⟩, ⟨rfl, rfl, rfl, rfl, rfl, rfl, rfl, trivial⟩, rfl, k'g rfl⟩
   ·have hk := RE_Hi_3 (x := ⟨3, xk, xv, xs, xr⟩) hre hb rfl
    rw [← htk] at hk
    refine Z ?_
    rw [hwi hlt]
    exact ⟨(i + 1, true, { b with time := xv }), by show l.length - (i + 1) < _; omega, ⟨by show i + 1 ≤ _; omega, fun _ => hk, fun h => by simp at h⟩, ⟨rfl, rfl, rfl, rfl, rfl, rfl, rfl, trivial⟩, rfl, k'g rfl⟩
   ·have hk := RE_Hi_4 (x := ⟨4, xk, xv, xs, xr⟩) hre hb rfl
    rw [← htk] at hk
    refine Z ?_
    rw [hwi hlt]
    exact ⟨(i + 1, true, { b with count := xv }), by show l.length - (i + 1) < _; omega, ⟨by show i + 1 ≤ _; omega, fun _ => hk, fun h => by simp at h⟩, ⟨rfl, rfl, rfl, rfl, rfl, rfl, rfl, trivial⟩, rfl, k'g rfl⟩
   ·have hk := RE_Hi_5 (x := ⟨5, xk, xv, xs, xr⟩) hre hb rfl
    rw [← htk] at hk
    refine Z ?_
    rw [hwi hlt]
    exact ⟨(i + 1, true, { b with sumH := true, sum := xv }), by show l.length - (i + 1) < _; omega, ⟨by show i + 1 ≤ _; omega, fun _ => hk, fun h => by simp at h⟩, ⟨rfl, rfl, rfl, rfl, rfl, rfl, rfl, trivial⟩, rfl, k'g rfl⟩
   ·have hkd := (by decide : ∀ k < 8, tbH 6 k = true → k = 1 ∨ k = 2) xk hfx.kind hb
    have hb0 : b.counts.length < big := by
     obtain ⟨h_attrs, l_attrs, h_start, h_time, h_count, h_sum, l_sum, h_min, l_min, h_max, l_max, h_counts, h_bounds, h_exs, l_exs, h_flags, h_u⟩ := hre
     have e1 := k'38 (fun s l h => fixs_len h) (fun y hy => w2 y (List.mem_of_mem_take (List.mem_filter.1 hy).1)) h_counts
     have e2 := k'1l (isT tbH) (l.take i)
     have e3 : wt (k'1 tbH (l.take i)) ≤ wt (l.take i) := e2
     unfold big; omega
    have hv := Packed_calls B b.counts ⟨6, xk, xv, xs, xr⟩ 6 rfl hkd hb0 hxs
    cases hok : k'p fixs 6 [⟨6, xk, xv, xs, xr⟩] with
    | none =>
     rw [hok] at hv
     have hno : RR = none := by
      obtain ⟨h_attrs, l_attrs, h_start, h_time, h_count, h_sum, l_sum, h_min, l_min, h_max, l_max, h_counts, h_bounds, h_exs, l_exs, h_flags, h_u⟩ := hre
      rw [← hRR]
      refine tellHi_no_counts (packO_cut (i + 1) ?_)
      rw [htk, k'4, show isT tbH ⟨6, xk, xv, xs, xr⟩ = true from hb]
      exact k'1m h_counts hok
     iterate 4 (refine r_false rfl ?_; refine l_c rfl ?_)
     refine r_true rfl ?_
     (try refine k'h rfl ?_)
     refine k'd (fst := false) 1 rfl rfl rfl ?_
     refine k'3 (.loadMov (q := owT (b.counts.map uD)) rfl rfl rfl rfl rfl rfl rfl) rfl rfl ?_
     refine k'd (fst := false) 1 rfl rfl rfl ?_
     refine l_callO hv rfl rfl rfl rfl rfl rfl rfl rfl ?_
     refine l_moveT rfl rfl rfl rfl ?_
     refine l_extO rfl rfl rfl rfl rfl ?_
     refine k'd (fst := false) 2 rfl rfl rfl ?_
     refine k'3 (.storeMov rfl rfl rfl rfl rfl rfl rfl (Nat.le_of_ble_eq_true rfl) rfl) rfl rfl ?_
     refine Z ?_
     rw [hwi hlt]
     exact ⟨(i + 1, false, b), by show l.length - (i + 1) < _; omega, ⟨by show i + 1 ≤ _; omega, fun h => by simp at h, fun _ => hno⟩, ⟨rfl, rfl, rfl, rfl, rfl, rfl, rfl, trivial⟩, rfl, k'g rfl⟩
    | some v =>
     rw [hok] at hv
     have hk := RE_Hi_6 (x := ⟨6, xk, xv, xs, xr⟩) (v := v) hok hre hb rfl
     rw [← htk] at hk
     iterate 4 (refine r_false rfl ?_; refine l_c rfl ?_)
     refine r_true rfl ?_
     (try refine k'h rfl ?_)
     refine k'd (fst := false) 1 rfl rfl rfl ?_
     refine k'3 (.loadMov (q := owT (b.counts.map uD)) rfl rfl rfl rfl rfl rfl rfl) rfl rfl ?_
     refine k'd (fst := false) 1 rfl rfl rfl ?_
     refine l_callO hv rfl rfl rfl rfl rfl rfl rfl rfl ?_
     refine l_moveT rfl rfl rfl rfl ?_
     refine l_extO rfl rfl rfl rfl rfl ?_
     refine k'd (fst := false) 2 rfl rfl rfl ?_
     refine k'3 (.storeMov rfl rfl rfl rfl rfl rfl rfl (Nat.le_of_ble_eq_true rfl) rfl) rfl rfl ?_
     refine Z ?_
     rw [hwi hlt]
     exact ⟨(i + 1, true, { b with counts := b.counts ++ v }), by show l.length - (i + 1) < _; omega, ⟨by show i + 1 ≤ _; omega, fun _ => hk, fun h => by simp at h⟩, ⟨rfl, rfl, rfl, rfl, rfl, rfl, rfl, trivial⟩, rfl, k'g rfl⟩
   ·have hkd := (by decide : ∀ k < 8, tbH 7 k = true → k = 1 ∨ k = 2) xk hfx.kind hb
    have hb0 : b.bounds.length < big := by
     obtain ⟨h_attrs, l_attrs, h_start, h_time, h_count, h_sum, l_sum, h_min, l_min, h_max, l_max, h_counts, h_bounds, h_exs, l_exs, h_flags, h_u⟩ := hre
     have e1 := k'38 (fun s l h => fixs_len h) (fun y hy => w2 y (List.mem_of_mem_take (List.mem_filter.1 hy).1)) h_bounds
     have e2 := k'1l (isT tbH) (l.take i)
     have e3 : wt (k'1 tbH (l.take i)) ≤ wt (l.take i) := e2
     unfold big; omega
    have hv := Packed_calls B b.bounds ⟨7, xk, xv, xs, xr⟩ 7 rfl hkd hb0 hxs
    cases hok : k'p fixs 7 [⟨7, xk, xv, xs, xr⟩] with
    | none =>
     rw [hok] at hv
     have hno : RR = none := by
      obtain ⟨h_attrs, l_attrs, h_start, h_time, h_count, h_sum, l_sum, h_min, l_min, h_max, l_max, h_counts, h_bounds, h_exs, l_exs, h_flags, h_u⟩ := hre
      rw [← hRR]
      refine tellHi_no_bounds (packO_cut (i + 1) ?_)
      rw [htk, k'4, show isT tbH ⟨7, xk, xv, xs, xr⟩ = true from hb]
      exact k'1m h_bounds hok
     iterate 5 (refine r_false rfl ?_; refine l_c rfl ?_)
     refine r_true rfl ?_
     (try refine k'h rfl ?_)
     refine k'd (fst := false) 1 rfl rfl rfl ?_
     refine k'3 (.loadMov (q := owT (b.bounds.map uD)) rfl rfl rfl rfl rfl rfl rfl) rfl rfl ?_
     refine k'd (fst := false) 1 rfl rfl rfl ?_
     refine l_callO hv rfl rfl rfl rfl rfl rfl rfl rfl ?_
     refine l_moveT rfl rfl rfl rfl ?_
     refine l_extO rfl rfl rfl rfl rfl ?_
     refine k'd (fst := false) 2 rfl rfl rfl ?_
     refine k'3 (.storeMov rfl rfl rfl rfl rfl rfl rfl (Nat.le_of_ble_eq_true rfl) rfl) rfl rfl ?_
     refine Z ?_
     rw [hwi hlt]
     exact ⟨(i + 1, false, b), by show l.length - (i + 1) < _; omega, ⟨by show i + 1 ≤ _; omega, fun h => by simp at h, fun _ => hno⟩, ⟨rfl, rfl, rfl, rfl, rfl, rfl, rfl, trivial⟩, rfl, k'g rfl⟩
    | some v =>
     rw [hok] at hv
     have hk := RE_Hi_7 (x := ⟨7, xk, xv, xs, xr⟩) (v := v) hok hre hb rfl
     rw [← htk] at hk
     iterate 5 (refine r_false rfl ?_; refine l_c rfl ?_)
     refine r_true rfl ?_
     (try refine k'h rfl ?_)
     refine k'd (fst := false) 1 rfl rfl rfl ?_
     refine k'3 (.loadMov (q := owT (b.bounds.map uD)) rfl rfl rfl rfl rfl rfl rfl) rfl rfl ?_
     refine k'd (fst := false) 1 rfl rfl rfl ?_
     refine l_callO hv rfl rfl rfl rfl rfl rfl rfl rfl ?_
     refine l_moveT rfl rfl rfl rfl ?_
     refine l_extO rfl rfl rfl rfl rfl ?_
     refine k'd (fst := false) 2 rfl rfl rfl ?_
     refine k'3 (.storeMov rfl rfl rfl rfl rfl rfl rfl (Nat.le_of_ble_eq_true rfl) rfl) rfl rfl ?_
     refine Z ?_
     rw [hwi hlt]
     exact ⟨(i + 1, true, { b with bounds := b.bounds ++ v }), by show l.length - (i + 1) < _; omega, ⟨by show i + 1 ≤ _; omega, fun _ => hk, fun h => by simp at h⟩, ⟨rfl, rfl, rfl, rfl, rfl, rfl, rfl, trivial⟩, rfl, k'g rfl⟩
   ·have hv := k'4m B xs (d - 1) hxs (by omega) (by omega)
    have hm0 : (b.exs.map Em.d).length ≤ l.length := by
     obtain ⟨h_attrs, l_attrs, h_start, h_time, h_count, h_sum, l_sum, h_min, l_min, h_max, l_max, h_counts, h_bounds, h_exs, l_exs, h_flags, h_u⟩ := hre
     simp only [List.length_map]; omega
    cases hok : okEm xs (d - 1) with
    | none =>
     rw [hok] at hv
     unfold rEmT at hv
     dsimp only at hv
     have hno : RR = none := by
      obtain ⟨h_attrs, l_attrs, h_start, h_time, h_count, h_sum, l_sum, h_min, l_min, h_max, l_max, h_counts, h_bounds, h_exs, l_exs, h_flags, h_u⟩ := hre
      rw [← hRR]
      refine tellHi_no_exs (k'1f (i + 1) ?_)
      rw [htk, k'4, show isT tbH ⟨8, xk, xv, xs, xr⟩ = true from hb]
      have := k'2 (x := ⟨8, xk, xv, xs, xr⟩) h_exs
      rw [if_pos rfl, hok] at this
      exact this
     refine Z ?_
     rw [k'b 1 (by omega) (by omega) (by omega) hd2]
     refine k'8 [] (hv) rfl rfl rfl ?_
     refine l_o0 rfl ?_
     refine adm ?_
     (try refine k'h rfl ?_)
     refine k'd (fst := false) 1 rfl rfl rfl ?_
     refine k'3 (.loadMov (q := owT (b.exs.map Em.d)) rfl rfl rfl rfl rfl rfl rfl) rfl rfl ?_
     refine Z ?_
     refine k'3 (.buildSlice (es := [Em.d noEm]) rfl rfl rfl rfl rfl rfl (by intro x hx; simp at hx; subst hx; rfl) (by simp) (by decide) (by decide)) rfl rfl ?_
     have hm : (b.exs.map Em.d).length + [Em.d noEm].length ≤ most := by simp [most] at *; omega
     refine k'3 (.append' rfl rfl rfl rfl ⟨_, _, rfl, rfl, by intro q; simp⟩ rfl rfl rfl rfl rfl (by rw [show [Em.d noEm] = [noEm].map Em.d from rfl, ← List.map_append]; exact Em_fits _) (by decide) rfl hm rfl) rfl rfl ?_
     refine k'd (fst := false) 2 rfl rfl rfl ?_
     refine k'3 (.storeMov rfl rfl rfl rfl rfl rfl rfl (Nat.le_of_ble_eq_true rfl) rfl) rfl rfl ?_
     refine Z ?_
     rw [hwi hlt]
     exact ⟨(i + 1, false, { b with exs := b.exs ++ [noEm] }), by show l.length - (i + 1) < _; omega, ⟨by show i + 1 ≤ _; omega, fun h => by simp at h, fun _ => hno⟩, ⟨rfl, rfl, rfl, rfl, rfl, rfl, rfl, trivial⟩, rfl, k'g (by unfold HiC; simp only [List.map_append]; rfl)⟩
    | some v =>
     rw [hok] at hv
     unfold rEmT at hv
     dsimp only at hv
     have hk := RE_Hi_8 (x := ⟨8, xk, xv, xs, xr⟩) (v := v) hok hre hb rfl
     rw [← htk] at hk
     refine Z ?_
     rw [k'b 1 (by omega) (by omega) (by omega) hd2]
     refine k'8 [] (hv) rfl rfl rfl ?_
     refine l_o0 rfl ?_
     refine adm ?_
     (try refine k'h rfl ?_)
     refine k'd (fst := false) 1 rfl rfl rfl ?_
     refine k'3 (.loadMov (q := owT (b.exs.map Em.d)) rfl rfl rfl rfl rfl rfl rfl) rfl rfl ?_
     refine Z ?_
     refine k'3 (.buildSlice (es := [Em.d v]) rfl rfl rfl rfl rfl rfl (by intro x hx; simp at hx; subst hx; rfl) (by simp) (by decide) (by decide)) rfl rfl ?_
     have hm : (b.exs.map Em.d).length + [Em.d v].length ≤ most := by simp [most] at *; omega
     refine k'3 (.append' rfl rfl rfl rfl ⟨_, _, rfl, rfl, by intro q; simp⟩ rfl rfl rfl rfl rfl (by rw [show [Em.d v] = [v].map Em.d from rfl, ← List.map_append]; exact Em_fits _) (by decide) rfl hm rfl) rfl rfl ?_
     refine k'd (fst := false) 2 rfl rfl rfl ?_
     refine k'3 (.storeMov rfl rfl rfl rfl rfl rfl rfl (Nat.le_of_ble_eq_true rfl) rfl) rfl rfl ?_
     refine Z ?_
     rw [hwi hlt]
     exact ⟨(i + 1, true, { b with exs := b.exs ++ [v] }), by show l.length - (i + 1) < _; omega, ⟨by show i + 1 ≤ _; omega, fun _ => hk, fun h => by simp at h⟩, ⟨rfl, rfl, rfl, rfl, rfl, rfl, rfl, trivial⟩, rfl, k'g (by unfold HiC; simp only [List.map_append]; rfl)⟩
   ·have hv := k'1t B xs (d - 1) hxs (by omega) (by omega)
    have hm0 : ((b.attrs.map Kv.sh).map KVs.d).length ≤ l.length := by
     obtain ⟨h_attrs, l_attrs, h_start, h_time, h_count, h_sum, l_sum, h_min, l_min, h_max, l_max, h_counts, h_bounds, h_exs, l_exs, h_flags, h_u⟩ := hre
     simp only [List.length_map]; omega
    cases hok : okK xs (d - 1) with
    | none =>
     rw [hok] at hv
     unfold rkT at hv
     dsimp only at hv
     have hno : RR = none := by
      obtain ⟨h_attrs, l_attrs, h_start, h_time, h_count, h_sum, l_sum, h_min, l_min, h_max, l_max, h_counts, h_bounds, h_exs, l_exs, h_flags, h_u⟩ := hre
      rw [← hRR]
      refine tellHi_no_attrs (k'1f (i + 1) ?_)
      rw [htk, k'4, show isT tbH ⟨9, xk, xv, xs, xr⟩ = true from hb]
      have := k'2 (x := ⟨9, xk, xv, xs, xr⟩) h_attrs
      rw [if_pos rfl, hok] at this
      exact this
     refine Z ?_
     rw [k'b 1 (by omega) (by omega) (by omega) hd2]
     refine k'8 [] (hv) rfl rfl rfl ?_
     refine l_o0 rfl ?_
     refine adm ?_
     (try refine k'h rfl ?_)
     refine k'd (fst := false) 1 rfl rfl rfl ?_
     refine k'3 (.loadMov (q := owT ((b.attrs.map Kv.sh).map KVs.d)) rfl rfl rfl rfl rfl rfl rfl) rfl rfl ?_
     refine Z ?_
     refine k'3 (.buildSlice (es := [KVs.d noKv.sh]) rfl rfl rfl rfl rfl rfl (by intro x hx; simp at hx; subst hx; rfl) (by simp) (by decide) (by decide)) rfl rfl ?_
     have hm : ((b.attrs.map Kv.sh).map KVs.d).length + [KVs.d noKv.sh].length ≤ most := by simp [most] at *; omega
     refine k'3 (.append' rfl rfl rfl rfl ⟨_, _, rfl, rfl, by intro q; simp⟩ rfl rfl rfl rfl rfl (by rw [show [KVs.d noKv.sh] = [noKv.sh].map KVs.d from rfl, ← List.map_append]; exact k'1r _) (by decide) rfl hm rfl) rfl rfl ?_
     refine k'd (fst := false) 2 rfl rfl rfl ?_
     refine k'3 (.storeMov rfl rfl rfl rfl rfl rfl rfl (Nat.le_of_ble_eq_true rfl) rfl) rfl rfl ?_
     refine Z ?_
     rw [hwi hlt]
     exact ⟨(i + 1, false, { b with attrs := b.attrs ++ [noKv] }), by show l.length - (i + 1) < _; omega, ⟨by show i + 1 ≤ _; omega, fun h => by simp at h, fun _ => hno⟩, ⟨rfl, rfl, rfl, rfl, rfl, rfl, rfl, trivial⟩, rfl, k'g (by unfold HiC; simp only [List.map_append]; rfl)⟩
    | some v =>
     rw [hok] at hv
     unfold rkT at hv
     dsimp only at hv
     have hk := RE_Hi_9 (x := ⟨9, xk, xv, xs, xr⟩) (v := v) hok hre hb rfl
     rw [← htk] at hk
     refine Z ?_
     rw [k'b 1 (by omega) (by omega) (by omega) hd2]
     refine k'8 [] (hv) rfl rfl rfl ?_
     refine l_o0 rfl ?_
     refine adm ?_
     (try refine k'h rfl ?_)
     refine k'd (fst := false) 1 rfl rfl rfl ?_
     refine k'3 (.loadMov (q := owT ((b.attrs.map Kv.sh).map KVs.d)) rfl rfl rfl rfl rfl rfl rfl) rfl rfl ?_
     refine Z ?_
     refine k'3 (.buildSlice (es := [KVs.d v.sh]) rfl rfl rfl rfl rfl rfl (by intro x hx; simp at hx; subst hx; rfl) (by simp) (by decide) (by decide)) rfl rfl ?_
     have hm : ((b.attrs.map Kv.sh).map KVs.d).length + [KVs.d v.sh].length ≤ most := by simp [most] at *; omega
     refine k'3 (.append' rfl rfl rfl rfl ⟨_, _, rfl, rfl, by intro q; simp⟩ rfl rfl rfl rfl rfl (by rw [show [KVs.d v.sh] = [v.sh].map KVs.d from rfl, ← List.map_append]; exact k'1r _) (by decide) rfl hm rfl) rfl rfl ?_
     refine k'd (fst := false) 2 rfl rfl rfl ?_
     refine k'3 (.storeMov rfl rfl rfl rfl rfl rfl rfl (Nat.le_of_ble_eq_true rfl) rfl) rfl rfl ?_
     refine Z ?_
     rw [hwi hlt]
     exact ⟨(i + 1, true, { b with attrs := b.attrs ++ [v] }), by show l.length - (i + 1) < _; omega, ⟨by show i + 1 ≤ _; omega, fun _ => hk, fun h => by simp at h⟩, ⟨rfl, rfl, rfl, rfl, rfl, rfl, rfl, trivial⟩, rfl, k'g (by unfold HiC; simp only [List.map_append]; rfl)⟩
   ·have hk := RE_Hi_10 (x := ⟨10, xk, xv, xs, xr⟩) hre hb rfl
    rw [← htk] at hk
    refine Z ?_
    rw [u32w]
    rw [hwi hlt]
    exact ⟨(i + 1, true, { b with flags := xv % 4294967296 }), by show l.length - (i + 1) < _; omega, ⟨by show i + 1 ≤ _; omega, fun _ => hk, fun h => by simp at h⟩, ⟨rfl, rfl, rfl, rfl, rfl, rfl, rfl, trivial⟩, rfl, k'g rfl⟩
   ·have hk := RE_Hi_11 (x := ⟨11, xk, xv, xs, xr⟩) hre hb rfl
    rw [← htk] at hk
    refine Z ?_
    rw [hwi hlt]
    exact ⟨(i + 1, true, { b with minH := true, min := xv }), by show l.length - (i + 1) < _; omega, ⟨by show i + 1 ≤ _; omega, fun _ => hk, fun h => by simp at h⟩, ⟨rfl, rfl, rfl, rfl, rfl, rfl, rfl, trivial⟩, rfl, k'g rfl⟩
   ·have hk := RE_Hi_12 (x := ⟨12, xk, xv, xs, xr⟩) hre hb rfl
    rw [← htk] at hk
    refine Z ?_
    rw [hwi hlt]
    exact ⟨(i + 1, true, { b with maxH := true, max := xv }), by show l.length - (i + 1) < _; omega, ⟨by show i + 1 ≤ _; omega, fun _ => hk, fun h => by simp at h⟩, ⟨rfl, rfl, rfl, rfl, rfl, rfl, rfl, trivial⟩, rfl, k'g rfl⟩
  ·have he : i = l.length := by omega
   subst he
   refine Z ?_
   rw [hlen, show decide ((l.length : Int) < l.length) = false from decide_eq_false (by omega)]
   cases ok
   ·refine Z ?_
    rw [i3 rfl]
    unfold rHiT
    exact k'j rfl
   have hre := i2 rfl
   rw [List.take_length] at hre
   have hf := RE_Hi_fin hre
   rw [hRR] at hf
   rw [hf]
   have hD : b.d = .agg [slD ((b.attrs.map Kv.sh).map KVs.d), .int .u64 b.start, .int .u64 b.time, .int .u64 b.count, .bool b.sumH, .int .u64 b.sum, .bool b.minH, .int .u64 b.min, .bool b.maxH, .int .u64 b.max, slD (b.counts.map uD), slD (b.bounds.map uD), slD (b.exs.map Em.d), .int .u32 b.flags, .str b.u] := by unfold Hi.d; rw [← ks_map]
   simp only [rHiT]
   rw [hD]
   exact O
