/- Exp: the reference reads them. -/
import Derived.Test.YtnaojdjhjkendaaGreatDoorER
import Derived.Test.YtnaojdjhjkendaaGreatDoorR4
import Derived.Test.YtnaojdjhjkendaaGreatDoorQL
set_option linter.unusedSimpArgs false
set_option linter.unusedVariables false
set_option maxRecDepth 100000
namespace Go.Proofs.YtnaojdjhjkendaaGreatDoor
open Go Go.Abs
variable (B : Fr)
theorem tabEh_calls : k'5 (cx B) 120 [] [] (.d (.sl false ([10, 17, 25, 33, 41, 48, 57, 66, 74, 80, 90, 97, 105, 113].map iD))) [] := by
 refine l_bw Tryz.func120 0 [] ?_
 (try refine k'h rfl ?_)
 refine k'3 (.buildSlice (es := [10, 17, 25, 33, 41, 48, 57, 66, 74, 80, 90, 97, 105, 113].map iD) rfl rfl rfl rfl rfl rfl (by intro x hx; simp [iD] at hx; rcases hx with rfl | rfl | rfl | rfl | rfl | rfl | rfl | rfl | rfl | rfl | rfl | rfl | rfl | rfl <;> rfl) (by decide) (by decide) (by decide)) rfl rfl ?_
 exact O
theorem tbQ_big {n k : Nat} (hn : 15 ≤ n) : tbQ n k = false := by
 unfold tbQ
 simp
 (repeat' split) <;> omega
theorem tk_Eh (n k : Nat) (hk : k < 8) : tkB [10, 17, 25, 33, 41, 48, 57, 66, 74, 80, 90, 97, 105, 113] n k = tbQ n k := by
 by_cases hn : n < 15
 ·exact (by decide : ∀ n < 15, ∀ k < 8, tkB [10, 17, 25, 33, 41, 48, 57, 66, 74, 80, 90, 97, 105, 113] n k = tbQ n k) n hn k hk
 ·rw [show tkB [10, 17, 25, 33, 41, 48, 57, 66, 74, 80, 90, 97, 105, 113] n k = false by unfold tkB; simp; omega, tbQ_big (by omega)]
theorem tbQ_num {n k : Nat} (hk : k < 8) (h : tbQ n k = true) : n = 1 ∨ n = 2 ∨ n = 3 ∨ n = 4 ∨ n = 5 ∨ n = 6 ∨ n = 7 ∨ n = 8 ∨ n = 9 ∨ n = 10 ∨ n = 11 ∨ n = 12 ∨ n = 13 ∨ n = 14 := by
 by_cases hn : n < 15
 ·have := (by decide : ∀ n < 15, ∀ k < 8, tbQ n k = true → [1, 2, 3, 4, 5, 6, 7, 8, 9, 10, 11, 12, 13, 14].contains n = true) n hn k hk h
  simp at this
  omega
 ·rw [tbQ_big (by omega)] at h; simp at h
def k'2o (d : Int) (l : List Fld) (b : Eh) (t_pos : List UInt8) (t_neg : List UInt8) : Prop := (k'7 (fun s => okK s (d - 1)) 1 (k'1 tbQ l) = some b.attrs) ∧ (b.attrs.length ≤ (k'1 tbQ l).length) ∧ (b.start = (k'a (k'1 tbQ l) 2).n) ∧ (b.time = (k'a (k'1 tbQ l) 3).n) ∧ (b.count = (k'a (k'1 tbQ l) 4).n) ∧ (b.sumH = hasL (k'1 tbQ l) 5) ∧ (b.sum = (k'a (k'1 tbQ l) 5).n) ∧ (b.minH = hasL (k'1 tbQ l) 12) ∧ (b.min = (k'a (k'1 tbQ l) 12).n) ∧ (b.maxH = hasL (k'1 tbQ l) 13) ∧ (b.max = (k'a (k'1 tbQ l) 13).n) ∧ (b.scale = zag32 (k'a (k'1 tbQ l) 6).n) ∧ (b.zero = (k'a (k'1 tbQ l) 7).n) ∧ (b.posH = anyL (k'1 tbQ l) 8) ∧ (t_pos = k'c (k'1 tbQ l) 8) ∧ (b.pos = noBk) ∧ (b.negH = anyL (k'1 tbQ l) 9) ∧ (t_neg = k'c (k'1 tbQ l) 9) ∧ (b.neg = noBk) ∧ (k'7 (fun s => okEm s (d - 1)) 11 (k'1 tbQ l) = some b.exs) ∧ (b.exs.length ≤ (k'1 tbQ l).length) ∧ (b.flags = (k'a (k'1 tbQ l) 10).n % 4294967296) ∧ (b.thr = (k'a (k'1 tbQ l) 14).n) ∧ b.u = unkL tbQ l
theorem RE_Eh_unk {d : Int} {l : List Fld} {b : Eh} {x : Fld} {t_pos : List UInt8} {t_neg : List UInt8} (h : k'2o d l b t_pos t_neg) (hx : tbQ x.num x.kind = false) : k'2o d (l ++ [x]) { b with u := b.u ++ x.raw } t_pos t_neg := by
 obtain ⟨h_attrs, l_attrs, h_start, h_time, h_count, h_sum, l_sum, h_min, l_min, h_max, l_max, h_scale, h_zero, h_pos, l_pos, z_pos, h_neg, l_neg, z_neg, h_exs, l_exs, h_flags, h_thr, h_u⟩ := h
 have e1 : k'1 tbQ (l ++ [x]) = k'1 tbQ l := by rw [k'4, show isT tbQ x = false from hx]; simp
 have e2 : unkL tbQ (l ++ [x]) = unkL tbQ l ++ x.raw := by rw [k'6, show isT tbQ x = false from hx]; rfl
 unfold k'2o
 rw [e1, e2]
 exact ⟨h_attrs, l_attrs, h_start, h_time, h_count, h_sum, l_sum, h_min, l_min, h_max, l_max, h_scale, h_zero, h_pos, l_pos, z_pos, h_neg, l_neg, z_neg, h_exs, l_exs, h_flags, h_thr, by rw [← h_u]⟩
theorem RE_Eh_1 {d : Int} {l : List Fld} {b : Eh} {x : Fld} {t_pos : List UInt8} {t_neg : List UInt8} {v : Kv} (hv : okK x.s (d - 1) = some v) (h : k'2o d l b t_pos t_neg) (hx : tbQ x.num x.kind = true) (hn : x.num = 1) : k'2o d (l ++ [x]) { b with attrs := b.attrs ++ [v] } t_pos t_neg := by
 obtain ⟨h_attrs, l_attrs, h_start, h_time, h_count, h_sum, l_sum, h_min, l_min, h_max, l_max, h_scale, h_zero, h_pos, l_pos, z_pos, h_neg, l_neg, z_neg, h_exs, l_exs, h_flags, h_thr, h_u⟩ := h
 have e1 : k'1 tbQ (l ++ [x]) = k'1 tbQ l ++ [x] := by rw [k'4, show isT tbQ x = true from hx]; rfl
 have e2 : unkL tbQ (l ++ [x]) = unkL tbQ l := by rw [k'6, show isT tbQ x = true from hx]; simp
 unfold k'2o
 rw [e1, e2]
 exact ⟨by rw [k'2 h_attrs, if_pos hn, hv], by simp; omega, by rw [k'0, if_neg (by omega)]; exact h_start, by rw [k'0, if_neg (by omega)]; exact h_time, by rw [k'0, if_neg (by omega)]; exact h_count, by unfold hasL; rw [k'0, if_neg (by omega)]; exact h_sum, by rw [k'0, if_neg (by omega)]; exact l_sum, by unfold hasL; rw [k'0, if_neg (by omega)]; exact h_min, by rw [k'0, if_neg (by omega)]; exact l_min, by unfold hasL; rw [k'0, if_neg (by omega)]; exact h_max, by rw [k'0, if_neg (by omega)]; exact l_max, by rw [k'0, if_neg (by omega)]; exact h_scale, by rw [k'0, if_neg (by omega)]; exact h_zero, by rw [k'n, ← h_pos]; simp [anyL]; omega, by rw [k'f, l_pos, show k'c [x] 8 = [] by simp [k'c]; omega, List.append_nil], z_pos, by rw [k'n, ← h_neg]; simp [anyL]; omega, by rw [k'f, l_neg, show k'c [x] 9 = [] by simp [k'c]; omega, List.append_nil], z_neg, by rw [k'2 h_exs, if_neg (by omega)], by simp; omega, by rw [k'0, if_neg (by omega)]; exact h_flags, by rw [k'0, if_neg (by omega)]; exact h_thr, h_u⟩
theorem RE_Eh_2 {d : Int} {l : List Fld} {b : Eh} {x : Fld} {t_pos : List UInt8} {t_neg : List UInt8} (h : k'2o d l b t_pos t_neg) (hx : tbQ x.num x.kind = true) (hn : x.num = 2) : k'2o d (l ++ [x]) { b with start := x.n } t_pos t_neg := by
 obtain ⟨h_attrs, l_attrs, h_start, h_time, h_count, h_sum, l_sum, h_min, l_min, h_max, l_max, h_scale, h_zero, h_pos, l_pos, z_pos, h_neg, l_neg, z_neg, h_exs, l_exs, h_flags, h_thr, h_u⟩ := h
 have e1 : k'1 tbQ (l ++ [x]) = k'1 tbQ l ++ [x] := by rw [k'4, show isT tbQ x = true from hx]; rfl
 have e2 : unkL tbQ (l ++ [x]) = unkL tbQ l := by rw [k'6, show isT tbQ x = true from hx]; simp
 unfold k'2o
 rw [e1, e2]
 exact ⟨by rw [k'2 h_attrs, if_neg (by omega)], by simp; omega, by rw [k'0, if_pos hn], by rw [k'0, if_neg (by omega)]; exact h_time, by rw [k'0, if_neg (by omega)]; exact h_count, by unfold hasL; rw [k'0, if_neg (by omega)]; exact h_sum, by rw [k'0, if_neg (by omega)]; exact l_sum, by unfold hasL; rw [k'0, if_neg (by omega)]; exact h_min, by rw [k'0, if_neg (by omega)]; exact l_min, by unfold hasL; rw [k'0, if_neg (by omega)]; exact h_max, by rw [k'0, if_neg (by omega)]; exact l_max, by rw [k'0, if_neg (by omega)]; exact h_scale, by rw [k'0, if_neg (by omega)]; exact h_zero, by rw [k'n, ← h_pos]; simp [anyL]; omega, by rw [k'f, l_pos, show k'c [x] 8 = [] by simp [k'c]; omega, List.append_nil], z_pos, by rw [k'n, ← h_neg]; simp [anyL]; omega, by rw [k'f, l_neg, show k'c [x] 9 = [] by simp [k'c]; omega, List.append_nil], z_neg, by rw [k'2 h_exs, if_neg (by omega)], by simp; omega, by rw [k'0, if_neg (by omega)]; exact h_flags, by rw [k'0, if_neg (by omega)]; exact h_thr, h_u⟩
theorem RE_Eh_3 {d : Int} {l : List Fld} {b : Eh} {x : Fld} {t_pos : List UInt8} {t_neg : List UInt8} (h : k'2o d l b t_pos t_neg) (hx : tbQ x.num x.kind = true) (hn : x.num = 3) : k'2o d (l ++ [x]) { b with time := x.n } t_pos t_neg := by
 obtain ⟨h_attrs, l_attrs, h_start, h_time, h_count, h_sum, l_sum, h_min, l_min, h_max, l_max, h_scale, h_zero, h_pos, l_pos, z_pos, h_neg, l_neg, z_neg, h_exs, l_exs, h_flags, h_thr, h_u⟩ := h
 have e1 : k'1 tbQ (l ++ [x]) = k'1 tbQ l ++ [x] := by rw [k'4, show isT tbQ x = true from hx]; rfl
 have e2 : unkL tbQ (l ++ [x]) = unkL tbQ l := by rw [k'6, show isT tbQ x = true from hx]; simp
 unfold k'2o
 rw [e1, e2]
 exact ⟨by rw [k'2 h_attrs, if_neg (by omega)], by simp; omega, by rw [k'0, if_neg (by omega)]; exact h_start, by rw [k'0, if_pos hn], by rw [k'0, if_neg (by omega)]; exact h_count, by unfold hasL; rw [k'0, if_neg (by omega)]; exact h_sum, by rw [k'0, if_neg (by omega)]; exact l_sum, by unfold hasL; rw [k'0, if_neg (by omega)]; exact h_min, by rw [k'0, if_neg (by omega)]; exact l_min, by unfold hasL; rw [k'0, if_neg (by omega)]; exact h_max, by rw [k'0, if_neg (by omega)]; exact l_max, by rw [k'0, if_neg (by omega)]; exact h_scale, by rw [k'0, if_neg (by omega)]; exact h_zero, by rw [k'n, ← h_pos]; simp [anyL]; omega, by rw [k'f, l_pos, show k'c [x] 8 = [] by simp [k'c]; omega, List.append_nil], z_pos, by rw [k'n, ← h_neg]; simp [anyL]; omega, by rw [k'f, l_neg, show k'c [x] 9 = [] by simp [k'c]; omega, List.append_nil], z_neg, by rw [k'2 h_exs, if_neg (by omega)], by simp; omega, by rw [k'0, if_neg (by omega)]; exact h_flags, by rw [k'0, if_neg (by omega)]; exact h_thr, h_u⟩
theorem RE_Eh_4 {d : Int} {l : List Fld} {b : Eh} {x : Fld} {t_pos : List UInt8} {t_neg : List UInt8} (h : k'2o d l b t_pos t_neg) (hx : tbQ x.num x.kind = true) (hn : x.num = 4) : k'2o d (l ++ [x]) { b with count := x.n } t_pos t_neg := by
 obtain ⟨h_attrs, l_attrs, h_start, h_time, h_count, h_sum, l_sum, h_min, l_min, h_max, l_max, h_scale, h_zero, h_pos, l_pos, z_pos, h_neg, l_neg, z_neg, h_exs, l_exs, h_flags, h_thr, h_u⟩ := h
 have e1 : k'1 tbQ (l ++ [x]) = k'1 tbQ l ++ [x] := by rw [k'4, show isT tbQ x = true from hx]; rfl
 have e2 : unkL tbQ (l ++ [x]) = unkL tbQ l := by rw [k'6, show isT tbQ x = true from hx]; simp
 unfold k'2o
 rw [e1, e2]
 exact ⟨by rw [k'2 h_attrs, if_neg (by omega)], by simp; omega, by rw [k'0, if_neg (by omega)]; exact h_start, by rw [k'0, if_neg (by omega)]; exact h_time, by rw [k'0, if_pos hn], by unfold hasL; rw [k'0, if_neg (by omega)]; exact h_sum, by rw [k'0, if_neg (by omega)]; exact l_sum, by unfold hasL; rw [k'0, if_neg (by omega)]; exact h_min, by rw [k'0, if_neg (by omega)]; exact l_min, by unfold hasL; rw [k'0, if_neg (by omega)]; exact h_max, by rw [k'0, if_neg (by omega)]; exact l_max, by rw [k'0, if_neg (by omega)]; exact h_scale, by rw [k'0, if_neg (by omega)]; exact h_zero, by rw [k'n, ← h_pos]; simp [anyL]; omega, by rw [k'f, l_pos, show k'c [x] 8 = [] by simp [k'c]; omega, List.append_nil], z_pos, by rw [k'n, ← h_neg]; simp [anyL]; omega, by rw [k'f, l_neg, show k'c [x] 9 = [] by simp [k'c]; omega, List.append_nil], z_neg, by rw [k'2 h_exs, if_neg (by omega)], by simp; omega, by rw [k'0, if_neg (by omega)]; exact h_flags, by rw [k'0, if_neg (by omega)]; exact h_thr, h_u⟩
theorem RE_Eh_5 {d : Int} {l : List Fld} {b : Eh} {x : Fld} {t_pos : List UInt8} {t_neg : List UInt8} (h : k'2o d l b t_pos t_neg) (hx : tbQ x.num x.kind = true) (hn : x.num = 5) : k'2o d (l ++ [x]) { b with sumH := true, sum := x.n } t_pos t_neg := by
 obtain ⟨h_attrs, l_attrs, h_start, h_time, h_count, h_sum, l_sum, h_min, l_min, h_max, l_max, h_scale, h_zero, h_pos, l_pos, z_pos, h_neg, l_neg, z_neg, h_exs, l_exs, h_flags, h_thr, h_u⟩ := h
 have e1 : k'1 tbQ (l ++ [x]) = k'1 tbQ l ++ [x] := by rw [k'4, show isT tbQ x = true from hx]; rfl
 have e2 : unkL tbQ (l ++ [x]) = unkL tbQ l := by rw [k'6, show isT tbQ x = true from hx]; simp
 unfold k'2o
 rw [e1, e2]
 exact ⟨by rw [k'2 h_attrs, if_neg (by omega)], by simp; omega, by rw [k'0, if_neg (by omega)]; exact h_start, by rw [k'0, if_neg (by omega)]; exact h_time, by rw [k'0, if_neg (by omega)]; exact h_count, by unfold hasL; rw [k'0, if_pos hn, hn]; rfl, by rw [k'0, if_pos hn], by unfold hasL; rw [k'0, if_neg (by omega)]; exact h_min, by rw [k'0, if_neg (by omega)]; exact l_min, by unfold hasL; rw [k'0, if_neg (by omega)]; exact h_max, by rw [k'0, if_neg (by omega)]; exact l_max, by rw [k'0, if_neg (by omega)]; exact h_scale, by rw [k'0, if_neg (by omega)]; exact h_zero, by rw [k'n, ← h_pos]; simp [anyL]; omega, by rw [k'f, l_pos, show k'c [x] 8 = [] by simp [k'c]; omega, List.append_nil], z_pos, by rw [k'n, ← h_neg]; simp [anyL]; omega, by rw [k'f, l_neg, show k'c [x] 9 = [] by simp [k'c]; omega, List.append_nil], z_neg, by rw [k'2 h_exs, if_neg (by omega)], by simp; omega, by rw [k'0, if_neg (by omega)]; exact h_flags, by rw [k'0, if_neg (by omega)]; exact h_thr, h_u⟩
theorem RE_Eh_6 {d : Int} {l : List Fld} {b : Eh} {x : Fld} {t_pos : List UInt8} {t_neg : List UInt8} (h : k'2o d l b t_pos t_neg) (hx : tbQ x.num x.kind = true) (hn : x.num = 6) : k'2o d (l ++ [x]) { b with scale := zag32 x.n } t_pos t_neg := by
 obtain ⟨h_attrs, l_attrs, h_start, h_time, h_count, h_sum, l_sum, h_min, l_min, h_max, l_max, h_scale, h_zero, h_pos, l_pos, z_pos, h_neg, l_neg, z_neg, h_exs, l_exs, h_flags, h_thr, h_u⟩ := h
 have e1 : k'1 tbQ (l ++ [x]) = k'1 tbQ l ++ [x] := by rw [k'4, show isT tbQ x = true from hx]; rfl
 have e2 : unkL tbQ (l ++ [x]) = unkL tbQ l := by rw [k'6, show isT tbQ x = true from hx]; simp
 unfold k'2o
 rw [e1, e2]
 exact ⟨by rw [k'2 h_attrs, if_neg (by omega)], by simp; omega, by rw [k'0, if_neg (by omega)]; exact h_start, by rw [k'0, if_neg (by omega)]; exact h_time, by rw [k'0, if_neg (by omega)]; exact h_count, by unfold hasL; rw [k'0, if_neg (by omega)]; exact h_sum, by rw [k'0, if_neg (by omega)]; exact l_sum, by unfold hasL; rw [k'0, if_neg (by omega)]; exact h_min, by rw [k'0, if_neg (by omega)]; exact l_min, by unfold hasL; rw [k'0, if_neg (by omega)]; exact h_max, by rw [k'0, if_neg (by omega)]; exact l_max, by rw [k'0, if_pos hn], by rw [k'0, if_neg (by omega)]; exact h_zero, by rw [k'n, ← h_pos]; simp [anyL]; omega, by rw [k'f, l_pos, show k'c [x] 8 = [] by simp [k'c]; omega, List.append_nil], z_pos, by rw [k'n, ← h_neg]; simp [anyL]; omega, by rw [k'f, l_neg, show k'c [x] 9 = [] by simp [k'c]; omega, List.append_nil], z_neg, by rw [k'2 h_exs, if_neg (by omega)], by simp; omega, by rw [k'0, if_neg (by omega)]; exact h_flags, by rw [k'0, if_neg (by omega)]; exact h_thr, h_u⟩
theorem RE_Eh_7 {d : Int} {l : List Fld} {b : Eh} {x : Fld} {t_pos : List UInt8} {t_neg : List UInt8} (h : k'2o d l b t_pos t_neg) (hx : tbQ x.num x.kind = true) (hn : x.num = 7) : k'2o d (l ++ [x]) { b with zero := x.n } t_pos t_neg := by
 obtain ⟨h_attrs, l_attrs, h_start, h_time, h_count, h_sum, l_sum, h_min, l_min, h_max, l_max, h_scale, h_zero, h_pos, l_pos, z_pos, h_neg, l_neg, z_neg, h_exs, l_exs, h_flags, h_thr, h_u⟩ := h
 have e1 : k'1 tbQ (l ++ [x]) = k'1 tbQ l ++ [x] := by rw [k'4, show isT tbQ x = true from hx]; rfl
 have e2 : unkL tbQ (l ++ [x]) = unkL tbQ l := by rw [k'6, show isT tbQ x = true from hx]; simp
 unfold k'2o
 rw [e1, e2]
 exact ⟨by rw [k'2 h_attrs, if_neg (by omega)], by simp; omega, by rw [k'0, if_neg (by omega)]; exact h_start, by rw [k'0, if_neg (by omega)]; exact h_time, by rw [k'0, if_neg (by omega)]; exact h_count, by unfold hasL; rw [k'0, if_neg (by omega)]; exact h_sum, by rw [k'0, if_neg (by omega)]; exact l_sum, by unfold hasL; rw [k'0, if_neg (by omega)]; exact h_min, by rw [k'0, if_neg (by omega)]; exact l_min, by unfold hasL; rw [k'0, if_neg (by omega)]; exact h_max, by rw [k'0, if_neg (by omega)]; exact l_max, by rw [k'0, if_neg (by omega)]; exact h_scale, by rw [k'0, if_pos hn], by rw [k'n, ← h_pos]; simp [anyL]; omega, by rw [k'f, l_pos, show k'c [x] 8 = [] by simp [k'c]; omega, List.append_nil], z_pos, by rw [k'n, ← h_neg]; simp [anyL]; omega, by rw [k'f, l_neg, show k'c [x] 9 = [] by simp [k'c]; omega, List.append_nil], z_neg, by rw [k'2 h_exs, if_neg (by omega)], by simp; omega, by rw [k'0, if_neg (by omega)]; exact h_flags, by rw [k'0, if_neg (by omega)]; exact h_thr, h_u⟩
theorem RE_Eh_8 {d : Int} {l : List Fld} {b : Eh} {x : Fld} {t_pos : List UInt8} {t_neg : List UInt8} (h : k'2o d l b t_pos t_neg) (hx : tbQ x.num x.kind = true) (hn : x.num = 8) : k'2o d (l ++ [x]) { b with posH := true } (t_pos ++ x.s) t_neg := by
 obtain ⟨h_attrs, l_attrs, h_start, h_time, h_count, h_sum, l_sum, h_min, l_min, h_max, l_max, h_scale, h_zero, h_pos, l_pos, z_pos, h_neg, l_neg, z_neg, h_exs, l_exs, h_flags, h_thr, h_u⟩ := h
 have e1 : k'1 tbQ (l ++ [x]) = k'1 tbQ l ++ [x] := by rw [k'4, show isT tbQ x = true from hx]; rfl
 have e2 : unkL tbQ (l ++ [x]) = unkL tbQ l := by rw [k'6, show isT tbQ x = true from hx]; simp
 unfold k'2o
 rw [e1, e2]
 exact ⟨by rw [k'2 h_attrs, if_neg (by omega)], by simp; omega, by rw [k'0, if_neg (by omega)]; exact h_start, by rw [k'0, if_neg (by omega)]; exact h_time, by rw [k'0, if_neg (by omega)]; exact h_count, by unfold hasL; rw [k'0, if_neg (by omega)]; exact h_sum, by rw [k'0, if_neg (by omega)]; exact l_sum, by unfold hasL; rw [k'0, if_neg (by omega)]; exact h_min, by rw [k'0, if_neg (by omega)]; exact l_min, by unfold hasL; rw [k'0, if_neg (by omega)]; exact h_max, by rw [k'0, if_neg (by omega)]; exact l_max, by rw [k'0, if_neg (by omega)]; exact h_scale, by rw [k'0, if_neg (by omega)]; exact h_zero, by rw [k'n]; simp [anyL, hn], by rw [k'f, l_pos]; simp [k'c, hn], z_pos, by rw [k'n, ← h_neg]; simp [anyL]; omega, by rw [k'f, l_neg, show k'c [x] 9 = [] by simp [k'c]; omega, List.append_nil], z_neg, by rw [k'2 h_exs, if_neg (by omega)], by simp; omega, by rw [k'0, if_neg (by omega)]; exact h_flags, by rw [k'0, if_neg (by omega)]; exact h_thr, h_u⟩
theorem RE_Eh_9 {d : Int} {l : List Fld} {b : Eh} {x : Fld} {t_pos : List UInt8} {t_neg : List UInt8} (h : k'2o d l b t_pos t_neg) (hx : tbQ x.num x.kind = true) (hn : x.num = 9) : k'2o d (l ++ [x]) { b with negH := true } t_pos (t_neg ++ x.s) := by
 obtain ⟨h_attrs, l_attrs, h_start, h_time, h_count, h_sum, l_sum, h_min, l_min, h_max, l_max, h_scale, h_zero, h_pos, l_pos, z_pos, h_neg, l_neg, z_neg, h_exs, l_exs, h_flags, h_thr, h_u⟩ := h
 have e1 : k'1 tbQ (l ++ [x]) = k'1 tbQ l ++ [x] := by rw [k'4, show isT tbQ x = true from hx]; rfl
 have e2 : unkL tbQ (l ++ [x]) = unkL tbQ l := by rw [k'6, show isT tbQ x = true from hx]; simp
 unfold k'2o
 rw [e1, e2]
 exact ⟨by rw [k'2 h_attrs, if_neg (by omega)], by simp; omega, by rw [k'0, if_neg (by omega)]; exact h_start, by rw [k'0, if_neg (by omega)]; exact h_time, by rw [k'0, if_neg (by omega)]; exact h_count, by unfold hasL; rw [k'0, if_neg (by omega)]; exact h_sum, by rw [k'0, if_neg (by omega)]; exact l_sum, by unfold hasL; rw [k'0, if_neg (by omega)]; exact h_min, by rw [k'0, if_neg (by omega)]; exact l_min, by unfold hasL; rw [k'0, if_neg (by omega)]; exact h_max, by rw [k'0, if_neg (by omega)]; exact l_max, by rw [k'0, if_neg (by omega)]; exact h_scale, by rw [k'0, if_neg (by omega)]; exact h_zero, by rw [k'n, ← h_pos]; simp [anyL]; omega, by rw [k'f, l_pos, show k'c [x] 8 = [] by simp [k'c]; omega, List.append_nil], z_pos, by rw [k'n]; simp [anyL, hn], by rw [k'f, l_neg]; simp [k'c, hn], z_neg, by rw [k'2 h_exs, if_neg (by omega)], by simp; omega, by rw [k'0, if_neg (by omega)]; exact h_flags, by rw [k'0, if_neg (by omega)]; exact h_thr, h_u⟩
theorem RE_Eh_10 {d : Int} {l : List Fld} {b : Eh} {x : Fld} {t_pos : List UInt8} {t_neg : List UInt8} (h : k'2o d l b t_pos t_neg) (hx : tbQ x.num x.kind = true) (hn : x.num = 10) : k'2o d (l ++ [x]) { b with flags := x.n % 4294967296 } t_pos t_neg := by
 obtain ⟨h_attrs, l_attrs, h_start, h_time, h_count, h_sum, l_sum, h_min, l_min, h_max, l_max, h_scale, h_zero, h_pos, l_pos, z_pos, h_neg, l_neg, z_neg, h_exs, l_exs, h_flags, h_thr, h_u⟩ := h
 have e1 : k'1 tbQ (l ++ [x]) = k'1 tbQ l ++ [x] := by rw [k'4, show isT tbQ x = true from hx]; rfl
 have e2 : unkL tbQ (l ++ [x]) = unkL tbQ l := by rw [k'6, show isT tbQ x = true from hx]; simp
 unfold k'2o
 rw [e1, e2]
 exact ⟨by rw [k'2 h_attrs, if_neg (by omega)], by simp; omega, by rw [k'0, if_neg (by omega)]; exact h_start, by rw [k'0, if_neg (by omega)]; exact h_time, by rw [k'0, if_neg (by omega)]; exact h_count, by unfold hasL; rw [k'0, if_neg (by omega)]; exact h_sum, by rw [k'0, if_neg (by omega)]; exact l_sum, by unfold hasL; rw [k'0, if_neg (by omega)]; exact h_min, by rw [k'0, if_neg (by omega)]; exact l_min, by unfold hasL; rw [k'0, if_neg (by omega)]; exact h_max, by rw [k'0, if_neg (by omega)]; exact l_max, by rw [k'0, if_neg (by omega)]; exact h_scale, by rw [k'0, if_neg (by omega)]; exact h_zero, by rw [k'n, ← h_pos]; simp [anyL]; omega, by rw [k'f, l_pos, show k'c [x] 8 = [] by simp [k'c]; omega, List.append_nil], z_pos, by rw [k'n, ← h_neg]; simp [anyL]; omega, by rw [k'f, l_neg, show k'c [x] 9 = [] by simp [k'c]; omega, List.append_nil], z_neg, by rw [k'2 h_exs, if_neg (by omega)], by simp; omega, by rw [k'0, if_pos hn], by rw [k'0, if_neg (by omega)]; exact h_thr, h_u⟩
theorem RE_Eh_11 {d : Int} {l : List Fld} {b : Eh} {x : Fld} {t_pos : List UInt8} {t_neg : List UInt8} {v : Em} (hv : okEm x.s (d - 1) = some v) (h : k'2o d l b t_pos t_neg) (hx : tbQ x.num x.kind = true) (hn : x.num = 11) : k'2o d (l ++ [x]) { b with exs := b.exs ++ [v] } t_pos t_neg := by
 obtain ⟨h_attrs, l_attrs, h_start, h_time, h_count, h_sum, l_sum, h_min, l_min, h_max, l_max, h_scale, h_zero, h_pos, l_pos, z_pos, h_neg, l_neg, z_neg, h_exs, l_exs, h_flags, h_thr, h_u⟩ := h
 have e1 : k'1 tbQ (l ++ [x]) = k'1 tbQ l ++ [x] := by rw [k'4, show isT tbQ x = true from hx]; rfl
 have e2 : unkL tbQ (l ++ [x]) = unkL tbQ l := by rw [k'6, show isT tbQ x = true from hx]; simp
 unfold k'2o
 rw [e1, e2]
 exact ⟨by rw [k'2 h_attrs, if_neg (by omega)], by simp; omega, by rw [k'0, if_neg (by omega)]; exact h_start, by rw [k'0, if_neg (by omega)]; exact h_time, by rw [k'0, if_neg (by omega)]; exact h_count, by unfold hasL; rw [k'0, if_neg (by omega)]; exact h_sum, by rw [k'0, if_neg (by omega)]; exact l_sum, by unfold hasL; rw [k'0, if_neg (by omega)]; exact h_min, by rw [k'0, if_neg (by omega)]; exact l_min, by unfold hasL; rw [k'0, if_neg (by omega)]; exact h_max, by rw [k'0, if_neg (by omega)]; exact l_max, by rw [k'0, if_neg (by omega)]; exact h_scale, by rw [k'0, if_neg (by omega)]; exact h_zero, by rw [k'n, ← h_pos]; simp [anyL]; omega, by rw [k'f, l_pos, show k'c [x] 8 = [] by simp [k'c]; omega, List.append_nil], z_pos, by rw [k'n, ← h_neg]; simp [anyL]; omega, by rw [k'f, l_neg, show k'c [x] 9 = [] by simp [k'c]; omega, List.append_nil], z_neg, by rw [k'2 h_exs, if_pos hn, hv], by simp; omega, by rw [k'0, if_neg (by omega)]; exact h_flags, by rw [k'0, if_neg (by omega)]; exact h_thr, h_u⟩
theorem RE_Eh_12 {d : Int} {l : List Fld} {b : Eh} {x : Fld} {t_pos : List UInt8} {t_neg : List UInt8} (h : k'2o d l b t_pos t_neg) (hx : tbQ x.num x.kind = true) (hn : x.num = 12) : k'2o d (l ++ [x]) { b with minH := true, min := x.n } t_pos t_neg := by
 obtain ⟨h_attrs, l_attrs, h_start, h_time, h_count, h_sum, l_sum, h_min, l_min, h_max, l_max, h_scale, h_zero, h_pos, l_pos, z_pos, h_neg, l_neg, z_neg, h_exs, l_exs, h_flags, h_thr, h_u⟩ := h
 have e1 : k'1 tbQ (l ++ [x]) = k'1 tbQ l ++ [x] := by rw [k'4, show isT tbQ x = true from hx]; rfl
 have e2 : unkL tbQ (l ++ [x]) = unkL tbQ l := by rw [k'6, show isT tbQ x = true from hx]; simp
 unfold k'2o
 rw [e1, e2]
 exact ⟨by rw [k'2 h_attrs, if_neg (by omega)], by simp; omega, by rw [k'0, if_neg (by omega)]; exact h_start, by rw [k'0, if_neg (by omega)]; exact h_time, by rw [k'0, if_neg (by omega)]; exact h_count, by unfold hasL; rw [k'0, if_neg (by omega)]; exact h_sum, by rw [k'0, if_neg (by omega)]; exact l_sum, by unfold hasL; rw [k'0, if_pos hn, hn]; rfl, by rw [k'0, if_pos hn], by unfold hasL; rw [k'0, if_neg (by omega)]; exact h_max, by rw [k'0, if_neg (by omega)]; exact l_max, by rw [k'0, if_neg (by omega)]; exact h_scale, by rw [k'0, if_neg (by omega)]; exact h_zero, by rw [k'n, ← h_pos]; simp [anyL]; omega, by rw [k'f, l_pos, show k'c [x] 8 = [] by simp [k'c]; omega, List.append_nil], z_pos, by rw [k'n, ← h_neg]; simp [anyL]; omega, by rw [k'f, l_neg, show k'c [x] 9 = [] by simp [k'c]; omega, List.append_nil], z_neg, by rw [k'2 h_exs, if_neg (by omega)], by simp; omega, by rw [k'0, if_neg (by omega)]; exact h_flags, by rw [k'0, if_neg (by omega)]; exact h_thr, h_u⟩
theorem RE_Eh_13 {d : Int} {l : List Fld} {b : Eh} {x : Fld} {t_pos : List UInt8} {t_neg : List UInt8} (h : k'2o d l b t_pos t_neg) (hx : tbQ x.num x.kind = true) (hn : x.num = 13) : k'2o d (l ++ [x]) { b with maxH := true, max := x.n } t_pos t_neg := by
 obtain ⟨h_attrs, l_attrs, h_start, h_time, h_count, h_sum, l_sum, h_min, l_min, h_max, l_max, h_scale, h_zero, h_pos, l_pos, z_pos, h_neg, l_neg, z_neg, h_exs, l_exs, h_flags, h_thr, h_u⟩ := h
 have e1 : k'1 tbQ (l ++ [x]) = k'1 tbQ l ++ [x] := by rw [k'4, show isT tbQ x = true from hx]; rfl
 have e2 : unkL tbQ (l ++ [x]) = unkL tbQ l := by rw [k'6, show isT tbQ x = true from hx]; simp
 unfold k'2o
 rw [e1, e2]
 exact ⟨by rw [k'2 h_attrs, if_neg (by omega)], by simp; omega, by rw [k'0, if_neg (by omega)]; exact h_start, by rw [k'0, if_neg (by omega)]; exact h_time, by rw [k'0, if_neg (by omega)]; exact h_count, by unfold hasL; rw [k'0, if_neg (by omega)]; exact h_sum, by rw [k'0, if_neg (by omega)]; exact l_sum, by unfold hasL; rw [k'0, if_neg (by omega)]; exact h_min, by rw [k'0, if_neg (by omega)]; exact l_min, by unfold hasL; rw [k'0, if_pos hn, hn]; rfl, by rw [k'0, if_pos hn], by rw [k'0, if_neg (by omega)]; exact h_scale, by rw [k'0, if_neg (by omega)]; exact h_zero, by rw [k'n, ← h_pos]; simp [anyL]; omega, by rw [k'f, l_pos, show k'c [x] 8 = [] by simp [k'c]; omega, List.append_nil], z_pos, by rw [k'n, ← h_neg]; simp [anyL]; omega, by rw [k'f, l_neg, show k'c [x] 9 = [] by simp [k'c]; omega, List.append_nil], z_neg, by rw [k'2 h_exs, if_neg (by omega)], by simp; omega, by rw [k'0, if_neg (by omega)]; exact h_flags, by rw [k'0, if_neg (by omega)]; exact h_thr, h_u⟩
theorem RE_Eh_14 {d : Int} {l : List Fld} {b : Eh} {x : Fld} {t_pos : List UInt8} {t_neg : List UInt8} (h : k'2o d l b t_pos t_neg) (hx : tbQ x.num x.kind = true) (hn : x.num = 14) : k'2o d (l ++ [x]) { b with thr := x.n } t_pos t_neg := by
 obtain ⟨h_attrs, l_attrs, h_start, h_time, h_count, h_sum, l_sum, h_min, l_min, h_max, l_max, h_scale, h_zero, h_pos, l_pos, z_pos, h_neg, l_neg, z_neg, h_exs, l_exs, h_flags, h_thr, h_u⟩ := h
 have e1 : k'1 tbQ (l ++ [x]) = k'1 tbQ l ++ [x] := by rw [k'4, show isT tbQ x = true from hx]; rfl
 have e2 : unkL tbQ (l ++ [x]) = unkL tbQ l := by rw [k'6, show isT tbQ x = true from hx]; simp
 unfold k'2o
 rw [e1, e2]
 exact ⟨by rw [k'2 h_attrs, if_neg (by omega)], by simp; omega, by rw [k'0, if_neg (by omega)]; exact h_start, by rw [k'0, if_neg (by omega)]; exact h_time, by rw [k'0, if_neg (by omega)]; exact h_count, by unfold hasL; rw [k'0, if_neg (by omega)]; exact h_sum, by rw [k'0, if_neg (by omega)]; exact l_sum, by unfold hasL; rw [k'0, if_neg (by omega)]; exact h_min, by rw [k'0, if_neg (by omega)]; exact l_min, by unfold hasL; rw [k'0, if_neg (by omega)]; exact h_max, by rw [k'0, if_neg (by omega)]; exact l_max, by rw [k'0, if_neg (by omega)]; exact h_scale, by rw [k'0, if_neg (by omega)]; exact h_zero, by rw [k'n, ← h_pos]; simp [anyL]; omega, by rw [k'f, l_pos, show k'c [x] 8 = [] by simp [k'c]; omega, List.append_nil], z_pos, by rw [k'n, ← h_neg]; simp [anyL]; omega, by rw [k'f, l_neg, show k'c [x] 9 = [] by simp [k'c]; omega, List.append_nil], z_neg, by rw [k'2 h_exs, if_neg (by omega)], by simp; omega, by rw [k'0, if_neg (by omega)]; exact h_flags, by rw [k'0, if_pos hn], h_u⟩
def sideO (h : Bool) (s : List UInt8) (d : Int) : Option (Bool × Bk) := if h then (match okB s d with | none => none | some x => some (true, x)) else some (false, noBk)
def endEh (d : Int) (b : Eh) (t_pos : List UInt8) (t_neg : List UInt8) : Option Eh :=
 match sideO b.posH t_pos (d - 1) with
 | none => none
 | some q_pos =>
 match sideO b.negH t_neg (d - 1) with
 | none => none
 | some q_neg =>
 some { b with posH := q_pos.1, pos := q_pos.2, negH := q_neg.1, neg := q_neg.2 }
theorem RE_Eh_fin {d : Int} {l : List Fld} {b : Eh} {t_pos : List UInt8} {t_neg : List UInt8} (h : k'2o d l b t_pos t_neg) : (tellEh d (k'1 tbQ l)).map (fun f => f (unkL tbQ l)) = endEh d b t_pos t_neg := by
 obtain ⟨h_attrs, l_attrs, h_start, h_time, h_count, h_sum, l_sum, h_min, l_min, h_max, l_max, h_scale, h_zero, h_pos, l_pos, z_pos, h_neg, l_neg, z_neg, h_exs, l_exs, h_flags, h_thr, h_u⟩ := h
 obtain ⟨attrs, start, time, count, sumH, sum, minH, min, maxH, max, scale, zer, posH, pos, negH, neg, exs, flags, thr, u⟩ := b
 dsimp only at *
 unfold tellEh endEh
 rw [show partO (fun s => okB s (d - 1)) noBk 8 (k'1 tbQ l) = sideO posH t_pos (d - 1) by
  unfold partO sideO
  rw [h_pos, l_pos]
  cases anyL (k'1 tbQ l) 8 with
  | false => rfl
  | true =>
   simp only [if_true]
   cases okB (k'c (k'1 tbQ l) 8) (d - 1) <;> rfl]
 rw [show partO (fun s => okB s (d - 1)) noBk 9 (k'1 tbQ l) = sideO negH t_neg (d - 1) by
  unfold partO sideO
  rw [h_neg, l_neg]
  cases anyL (k'1 tbQ l) 9 with
  | false => rfl
  | true =>
   simp only [if_true]
   cases okB (k'c (k'1 tbQ l) 9) (d - 1) <;> rfl]
 simp only [h_attrs, h_exs]
 cases sideO posH t_pos (d - 1) with
 | none => rfl
 | some q_pos =>
 cases sideO negH t_neg (d - 1) with
 | none => rfl
 | some q_neg =>
 simp only [Option.map_some]
 rw [h_start]; rw [h_time]; rw [h_count]; rw [h_scale]; rw [h_zero]; rw [h_flags]; rw [h_thr]; rw [h_sum, l_sum]; rw [h_min, l_min]; rw [h_max, l_max]; rw [h_u]
theorem tellEh_no_attrs {d : Int} {l : List Fld} (h : k'7 (fun s => okK s (d - 1)) 1 (k'1 tbQ l) = none) : (tellEh d (k'1 tbQ l)).map (fun f => f (unkL tbQ l)) = none := by
 unfold tellEh
 rw [h]
 (repeat' split) <;> first | rfl | simp_all
theorem tellEh_no_exs {d : Int} {l : List Fld} (h : k'7 (fun s => okEm s (d - 1)) 11 (k'1 tbQ l) = none) : (tellEh d (k'1 tbQ l)).map (fun f => f (unkL tbQ l)) = none := by
 unfold tellEh
 rw [h]
 (repeat' split) <;> first | rfl | simp_all
def EhC (b : Eh) : List T := [owT ((b.attrs.map Kv.sh).map KVs.d), .d (.int .u64 b.start), .d (.int .u64 b.time), .d (.int .u64 b.count), .d (.bool b.sumH), .d (.int .u64 b.sum), .d (.bool b.minH), .d (.int .u64 b.min), .d (.bool b.maxH), .d (.int .u64 b.max), .d (.int .i32 b.scale), .d (.int .u64 b.zero), .d (.bool b.posH), .d (.int .i32 b.pos.off), .d (slD (b.pos.cs.map uD)), sT b.pos.u, .d (.bool b.negH), .d (.int .i32 b.neg.off), .d (slD (b.neg.cs.map uD)), sT b.neg.u, owT (b.exs.map Em.d), .d (.int .u32 b.flags), .d (.int .u64 b.thr), sT b.u]
def rEhT (o : Option Eh) : T := match o with | some v => .tup [.d v.d, .d (.bool true)] | none => .tup [.d noEh.d, .d (.bool false)]
theorem ReadEh_calls (s : List UInt8) (d : Int) (hl : s.length < big) (hd1 : -9223372036854775808 ≤ d) (hd2 : d < 9223372036854775808) : k'5 (cx B) 103 [sT s, .d (.int .i64 d)] [] (rEhT (okEh s d)) [] := by
 have h1 := k'v B s d hl hd1 hd2
 have hl' := hl
 unfold big at hl'
 unfold okEh
 rw [okG_L]
 unfold k'2l at h1
 cases ho : okL s d with
 | none =>
  rw [ho] at h1
  dsimp only at h1 ⊢
  unfold rEhT
  refine l_bw Tryz.func103 0 [] ?_
  refine l_cw [] (h1) rfl rfl rfl ?_
  refine k'1w (fun _ : Unit => 0) (fun _ => [(4, .ptr 0 0), (5, .d (.bool false)), (6, .d (.sl true [])), (7, .d (.bool false)), (8, .ptr 1 0), (9, sT []), (10, sT []), (11, iT 0)]) (fun _ => [.mu (noEh.d.cells.map T.d), .mu (noEh.d.cells.map T.d)]) (fun _ => True) () trivial ⟨rfl, rfl, rfl, rfl, rfl, rfl, rfl, rfl, trivial⟩ ⟨⟨.inr (.inr (.inl ⟨_, _, rfl, rfl⟩)), .inr (.inl rfl), .inr (.inl rfl), .inr (.inl rfl), .inr (.inl rfl), .inr (.inl rfl), .inr (.inl rfl), .inr (.inl rfl), .inr (.inl rfl), .inr (.inl rfl), .inr (.inl rfl), .inr (.inl rfl), .inr (.inl rfl), .inr (.inl rfl), .inr (.inr (.inl ⟨_, _, rfl, rfl⟩)), .inr (.inl rfl), .inr (.inl rfl), .inr (.inl rfl), .inr (.inr (.inl ⟨_, _, rfl, rfl⟩)), .inr (.inl rfl), .inr (.inr (.inl ⟨_, _, rfl, rfl⟩)), .inr (.inl rfl), .inr (.inl rfl), .inr (.inl rfl), trivial⟩, WkC.refl _, trivial⟩ rfl 2 rfl (fun _ => rfl) (fun _ => rfl) (fun _ => rfl) ?_
  intro _ _
  exact O
 | some l =>
  rw [ho] at h1
  obtain ⟨w1, w2⟩ := k'47 ho
  obtain ⟨-, -, -, hd0⟩ := k'1n ho
  dsimp only at h1 ⊢
  have hlen : (l.map Fld.d).length = l.length := by simp
  have hlok : LOk l := ⟨w2, by unfold big; omega⟩
  have hlb := hlok.len
  generalize hRR : (tellEh d (k'1 tbQ l)).map (fun f => f (unkL tbQ l)) = RR
  refine l_bw Tryz.func103 0 [] ?_
  refine l_cw [] (h1) rfl rfl rfl ?_
  refine k'1w (fun y : Nat × Bool × Eh × List UInt8 × List UInt8 => l.length - y.1) (fun y => [(1, .d (.int .i64 d)), (4, .ptr 0 0), (5, .d (.bool false)), (6, .d (slD (l.map Fld.d))), (7, .d (.bool y.2.1)), (8, .ptr 1 0), (9, sT y.2.2.2.1), (10, sT y.2.2.2.2), (11, iT y.1)])
   (fun y => [.mu (noEh.d.cells.map T.d), .mu (EhC y.2.2.1)])
   (fun y => y.1 ≤ l.length ∧ (y.2.1 = true → k'2o d (l.take y.1) y.2.2.1 y.2.2.2.1 y.2.2.2.2) ∧ (y.2.1 = false → RR = none)) (0, true, noEh, [], [])
   ⟨by omega, fun _ => by rw [List.take_zero]; exact ⟨rfl, by simp [noEh], rfl, rfl, rfl, rfl, rfl, rfl, rfl, rfl, rfl, rfl, rfl, rfl, rfl, rfl, rfl, rfl, rfl, rfl, by simp [noEh], rfl, rfl, rfl⟩, fun h => by simp at h⟩ ⟨rfl, rfl, rfl, rfl, rfl, rfl, rfl, rfl, rfl, trivial⟩ ?_ rfl 2 rfl (fun _ => rfl) (fun _ => rfl) (fun _ => rfl) ?_
  ·exact ⟨⟨.inr (.inr (.inl ⟨_, _, rfl, rfl⟩)), .inr (.inl rfl), .inr (.inl rfl), .inr (.inl rfl), .inr (.inl rfl), .inr (.inl rfl), .inr (.inl rfl), .inr (.inl rfl), .inr (.inl rfl), .inr (.inl rfl), .inr (.inl rfl), .inr (.inl rfl), .inr (.inl rfl), .inr (.inl rfl), .inr (.inr (.inl ⟨_, _, rfl, rfl⟩)), .inr (.inl rfl), .inr (.inl rfl), .inr (.inl rfl), .inr (.inr (.inl ⟨_, _, rfl, rfl⟩)), .inr (.inl rfl), .inr (.inr (.inl ⟨_, _, rfl, rfl⟩)), .inr (.inl rfl), .inr (.inl rfl), .inr (.inl rfl), trivial⟩, ⟨.inr (.inr (.inr ⟨rfl, rfl⟩)), .inr (.inl rfl), .inr (.inl rfl), .inr (.inl rfl), .inr (.inl rfl), .inr (.inl rfl), .inr (.inl rfl), .inr (.inl rfl), .inr (.inl rfl), .inr (.inl rfl), .inr (.inl rfl), .inr (.inl rfl), .inr (.inl rfl), .inr (.inl rfl), .inr (.inl rfl), .inr (.inl rfl), .inr (.inl rfl), .inr (.inl rfl), .inr (.inl rfl), .inr (.inl rfl), .inr (.inr (.inr ⟨rfl, rfl⟩)), .inr (.inl rfl), .inr (.inl rfl), .inr (.inl rfl), trivial⟩, trivial⟩
  rintro ⟨i, ok, b, t_pos, t_neg⟩ ⟨i1, i2, i3⟩
  dsimp only at i1 i2 i3 ⊢
  have hwi : i < l.length → IntKind.i64.wrap ((i : Int) + 1) = ((i + 1 : Nat) : Int) := fun h => by rw [k'1b (by omega) (by omega)]; omega
  by_cases hlt : i < l.length
  ·cases ok
   ·refine Z ?_
    rw [hlen, show decide ((i : Int) < l.length) = true from decide_eq_true (by omega)]
    refine Z ?_
    rw [i3 rfl]
    unfold rEhT
    exact k'j rfl
   have hre := i2 rfl
   obtain ⟨x, hx⟩ : ∃ x, l[i]? = some x := ⟨_, List.getElem?_eq_getElem hlt⟩
   have hdx : (l.map Fld.d)[i]? = some x.d := by rw [List.getElem?_map, hx]; rfl
   have htk : l.take (i + 1) = l.take i ++ [x] := by rw [List.take_add_one, hx]; rfl
   obtain ⟨hfx, hwx⟩ := k'1x hlok hx
   have hwt := k'1u l i
   have hul : b.u.length ≤ wt (l.take i) := by
    obtain ⟨h_attrs, l_attrs, h_start, h_time, h_count, h_sum, l_sum, h_min, l_min, h_max, l_max, h_scale, h_zero, h_pos, l_pos, z_pos, h_neg, l_neg, z_neg, h_exs, l_exs, h_flags, h_thr, h_u⟩ := hre
    rw [h_u]; exact k'1y _ _
   have hl_pos : t_pos.length ≤ wt (l.take i) := by
    obtain ⟨h_attrs, l_attrs, h_start, h_time, h_count, h_sum, l_sum, h_min, l_min, h_max, l_max, h_scale, h_zero, h_pos, l_pos, z_pos, h_neg, l_neg, z_neg, h_exs, l_exs, h_flags, h_thr, h_u⟩ := hre
    rw [l_pos]; exact Nat.le_trans (k'3a (fun x hx => w2 x (List.mem_of_mem_take (List.mem_filter.1 hx).1)) 8) (k'1l _ _)
   have hl_neg : t_neg.length ≤ wt (l.take i) := by
    obtain ⟨h_attrs, l_attrs, h_start, h_time, h_count, h_sum, l_sum, h_min, l_min, h_max, l_max, h_scale, h_zero, h_pos, l_pos, z_pos, h_neg, l_neg, z_neg, h_exs, l_exs, h_flags, h_thr, h_u⟩ := hre
    rw [l_neg]; exact Nat.le_trans (k'3a (fun x hx => w2 x (List.mem_of_mem_take (List.mem_filter.1 hx).1)) 9) (k'1l _ _)
   have hwt1 := k'1u l (i + 1)
   have hwn : wt (l.take (i + 1)) = wt (l.take i) + x.raw.length := by rw [htk, wt_snoc]
   have hxs0 := hfx.s
   have hkl : (k'1 tbQ (l.take i)).length ≤ l.length := Nat.le_trans (List.length_filter_le _ _) (by rw [List.length_take]; omega)
   have ht := k'14 B [10, 17, 25, 33, 41, 48, 57, 66, 74, 80, 90, 97, 105, 113] x (by decide) (by intro t ht; simp at ht; omega)
   rw [tk_Eh _ _ hfx.kind] at ht
   have hxs : x.s.length < big := by have := hfx.s; unfold big; omega
   refine Z ?_
   rw [hlen, show decide ((i : Int) < l.length) = true from decide_eq_true (by omega)]
   refine Z ?_
   refine k'3 (.indexAddr (k := .i64) (n := i) (es := l.map Fld.d) (u := x.d) rfl rfl rfl rfl (.inl ⟨_, rfl⟩) rfl (by omega) (by simpa using hdx) rfl (by decide)) rfl rfl ?_
   refine Z ?_
   refine x_cw [] (tabEh_calls B) rfl rfl rfl ?_
   refine x_cw [] (ht) rfl rfl rfl ?_
   cases hb : tbQ x.num x.kind
   ·have hk := RE_Eh_unk hre hb
    rw [← htk] at hk
    refine Z ?_
    refine k'3 (.addStr rfl rfl rfl (by omega)) rfl rfl ?_
    refine Z ?_
    rw [hwi hlt]
    exact ⟨(i + 1, true, { b with u := b.u ++ x.raw }, t_pos, t_neg), by show l.length - (i + 1) < _; omega, ⟨by show i + 1 ≤ _; omega, fun _ => hk, fun h => by simp at h⟩, ⟨rfl, rfl, rfl, rfl, rfl, rfl, rfl, rfl, rfl, trivial⟩, rfl, k'g rfl⟩
   have hnum := tbQ_num hfx.kind hb
   have hcut : ∀ (ok : List UInt8 → Option Unit), True := fun _ => trivial
   obtain ⟨xn, xk, xv, xs, xr⟩ := x
   dsimp only at *
   refine Z ?_
   rcases hnum with rfl | rfl | rfl | rfl | rfl | rfl | rfl | rfl | rfl | rfl | rfl | rfl | rfl | rfl
   ·have hv := k'1t B xs (d - 1) hxs (by omega) (by omega)
    have hm0 : ((b.attrs.map Kv.sh).map KVs.d).length ≤ l.length := by
     obtain ⟨h_attrs, l_attrs, h_start, h_time, h_count, h_sum, l_sum, h_min, l_min, h_max, l_max, h_scale, h_zero, h_pos, l_pos, z_pos, h_neg, l_neg, z_neg, h_exs, l_exs, h_flags, h_thr, h_u⟩ := hre
     simp only [List.length_map]; omega
    cases hok : okK xs (d - 1) with
    | none =>
     rw [hok] at hv
     unfold rkT at hv
     dsimp only at hv
     have hno : RR = none := by
      obtain ⟨h_attrs, l_attrs, h_start, h_time, h_count, h_sum, l_sum, h_min, l_min, h_max, l_max, h_scale, h_zero, h_pos, l_pos, z_pos, h_neg, l_neg, z_neg, h_exs, l_exs, h_flags, h_thr, h_u⟩ := hre
      rw [← hRR]
      refine tellEh_no_attrs (k'1f (i + 1) ?_)
      rw [htk, k'4, show isT tbQ ⟨1, xk, xv, xs, xr⟩ = true from hb]
      have := k'2 (x := ⟨1, xk, xv, xs, xr⟩) h_attrs
      rw [if_pos rfl, hok] at this
      exact this
     refine Z ?_
     rw [k'b 1 (by omega) (by omega) (by omega) hd2]
     refine k'8 [] (hv) rfl rfl rfl ?_
     refine l_o0 rfl ?_
     refine adm ?_
     (try refine k'h rfl ?_)
     refine k'd (fst := false) 1 rfl rfl rfl ?_
     refine k'3 (.loadMov (q := owT ((b.attrs.map Kv.sh).map KVs.d)) rfl rfl rfl rfl rfl rfl rfl) rfl rfl ?_
     refine Z ?_
     refine k'3 (.buildSlice (es := [KVs.d noKv.sh]) rfl rfl rfl rfl rfl rfl (by intro x hx; simp at hx; subst hx; rfl) (by simp) (by decide) (by decide)) rfl rfl ?_
     have hm : ((b.attrs.map Kv.sh).map KVs.d).length + [KVs.d noKv.sh].length ≤ most := by simp [most] at *; omega
     refine k'3 (.append' rfl rfl rfl rfl ⟨_, _, rfl, rfl, by intro q; simp⟩ rfl rfl rfl rfl rfl (by rw [show [KVs.d noKv.sh] = [noKv.sh].map KVs.d from rfl, ← List.map_append]; exact k'1r _) (by decide) rfl hm rfl) rfl rfl ?_
     refine k'd (fst := false) 2 rfl rfl rfl ?_
     refine k'3 (.storeMov rfl rfl rfl rfl rfl rfl rfl (Nat.le_of_ble_eq_true rfl) rfl) rfl rfl ?_
     refine Z ?_
     rw [hwi hlt]
     exact ⟨(i + 1, false, { b with attrs := b.attrs ++ [noKv] }, t_pos, t_neg), by show l.length - (i + 1) < _; omega, ⟨by show i + 1 ≤ _; omega, fun h => by simp at h, fun _ => hno⟩, ⟨rfl, rfl, rfl, rfl, rfl, rfl, rfl, rfl, rfl, trivial⟩, rfl, k'g (by unfold EhC; simp only [List.map_append]; rfl)⟩
    | some v =>
     rw [hok] at hv
     unfold rkT at hv
     dsimp only at hv
     have hk := RE_Eh_1 (x := ⟨1, xk, xv, xs, xr⟩) (v := v) hok hre hb rfl
     rw [← htk] at hk
     refine Z ?_
     rw [k'b 1 (by omega) (by omega) (by omega) hd2]
     refine k'8 [] (hv) rfl rfl rfl ?_
     refine l_o0 rfl ?_
     refine adm ?_
     (try refine k'h rfl ?_)
     refine k'd (fst := false) 1 rfl rfl rfl ?_
     refine k'3 (.loadMov (q := owT ((b.attrs.map Kv.sh).map KVs.d)) rfl rfl rfl rfl rfl rfl rfl) rfl rfl ?_
     refine Z ?_
     refine k'3 (.buildSlice (es := [KVs.d v.sh]) rfl rfl rfl rfl rfl rfl (by intro x hx; simp at hx; subst hx; rfl) (by simp) (by decide) (by decide)) rfl rfl ?_
     have hm : ((b.attrs.map Kv.sh).map KVs.d).length + [KVs.d v.sh].length ≤ most := by simp [most] at *; omega
     refine k'3 (.append' rfl rfl rfl rfl ⟨_, _, rfl, rfl, by intro q; simp⟩ rfl rfl rfl rfl rfl (by rw [show [KVs.d v.sh] = [v.sh].map KVs.d from rfl, ← List.map_append]; exact k'1r _) (by decide) rfl hm rfl) rfl rfl ?_
     refine k'd (fst := false) 2 rfl rfl rfl ?_
     refine k'3 (.storeMov rfl rfl rfl rfl rfl rfl rfl (Nat.le_of_ble_eq_true rfl) rfl) rfl rfl ?_
     refine Z ?_
     rw [hwi hlt]
     exact ⟨(i + 1, true, { b with attrs := b.attrs ++ [v] }, t_pos, t_neg), by show l.length - (i + 1) < _; omega, ⟨by show i + 1 ≤ _; omega, fun _ => hk, fun h => by simp at h⟩, ⟨rfl, rfl, rfl, rfl, rfl, rfl, rfl, rfl, rfl, trivial⟩, rfl, k'g (by unfold EhC; simp only [List.map_append]; rfl)⟩
   ·have hk := RE_Eh_2 (x := ⟨2, xk, xv, xs, xr⟩) hre hb rfl
    rw [← htk] at hk
    refine Z ?_
    rw [hwi hlt]
    exact ⟨(i + 1, true, { b with start := xv }, t_pos, t_neg), by show l.length - (i + 1) < _; omega, ⟨by show i + 1 ≤ _; omega, fun _ => hk, fun h => by simp at h⟩, ⟨rfl, rfl, rfl, rfl, rfl, rfl, rfl, rfl, rfl, trivial⟩, rfl, k'g rfl⟩
   ·have hk := RE_Eh_3 (x := ⟨3, xk, xv, xs, xr⟩) hre hb rfl
    rw [← htk] at hk
    refine Z ?_
    rw [hwi hlt]
    exact ⟨(i + 1, true, { b with time := xv }, t_pos, t_neg), by show l.length - (i + 1) < _; omega, ⟨by show i + 1 ≤ _; omega, fun _ => hk, fun h => by simp at h⟩, ⟨rfl, rfl, rfl, rfl, rfl, rfl, rfl, rfl, rfl, trivial⟩, rfl, k'g rfl⟩
   ·have hk := RE_Eh_4 (x := ⟨4, xk, xv, xs, xr⟩) hre hb rfl
    rw [← htk] at hk
    refine Z ?_
    rw [hwi hlt]
    exact ⟨(i + 1, true, { b with count := xv }, t_pos, t_neg), by show l.length - (i + 1) < _; omega, ⟨by show i + 1 ≤ _; omega, fun _ => hk, fun h => by simp at h⟩, ⟨rfl, rfl, rfl, rfl, rfl, rfl, rfl, rfl, rfl, trivial⟩, rfl, k'g rfl⟩
   ·have hk := RE_Eh_5 (x := ⟨5, xk, xv, xs, xr⟩) hre hb rfl
    rw [← htk] at hk
    refine Z ?_
    rw [hwi hlt]
    exact ⟨(i + 1, true, { b with sumH := true, sum := xv }, t_pos, t_neg), by show l.length - (i + 1) < _; omega, ⟨by show i + 1 ≤ _; omega, fun _ => hk, fun h => by simp at h⟩, ⟨rfl, rfl, rfl, rfl, rfl, rfl, rfl, rfl, rfl, trivial⟩, rfl, k'g rfl⟩
   ·have hk := RE_Eh_6 (x := ⟨6, xk, xv, xs, xr⟩) hre hb rfl
    rw [← htk] at hk
    refine Z ?_
    refine l_cw [] (rZag32_calls B xv hfx.n) rfl rfl rfl ?_
    rw [hwi hlt]
    exact ⟨(i + 1, true, { b with scale := zag32 xv }, t_pos, t_neg), by show l.length - (i + 1) < _; omega, ⟨by show i + 1 ≤ _; omega, fun _ => hk, fun h => by simp at h⟩, ⟨rfl, rfl, rfl, rfl, rfl, rfl, rfl, rfl, rfl, trivial⟩, rfl, k'g rfl⟩
   ·have hk := RE_Eh_7 (x := ⟨7, xk, xv, xs, xr⟩) hre hb rfl
    rw [← htk] at hk
    refine Z ?_
    rw [hwi hlt]
    exact ⟨(i + 1, true, { b with zero := xv }, t_pos, t_neg), by show l.length - (i + 1) < _; omega, ⟨by show i + 1 ≤ _; omega, fun _ => hk, fun h => by simp at h⟩, ⟨rfl, rfl, rfl, rfl, rfl, rfl, rfl, rfl, rfl, trivial⟩, rfl, k'g rfl⟩
   ·have hk := RE_Eh_8 (x := ⟨8, xk, xv, xs, xr⟩) hre hb rfl
    rw [← htk] at hk
    refine Z ?_
    refine k'35 (.addStr rfl rfl rfl (by omega)) rfl rfl rfl ?_
    refine Z ?_
    rw [hwi hlt]
    exact ⟨(i + 1, true, { b with posH := true }, t_pos ++ xs, t_neg), by show l.length - (i + 1) < _; omega, ⟨by show i + 1 ≤ _; omega, fun _ => hk, fun h => by simp at h⟩, ⟨rfl, rfl, rfl, rfl, rfl, rfl, rfl, rfl, rfl, trivial⟩, rfl, k'g rfl⟩
   ·have hk := RE_Eh_9 (x := ⟨9, xk, xv, xs, xr⟩) hre hb rfl
    rw [← htk] at hk
    refine Z ?_
    refine k'35 (.addStr rfl rfl rfl (by omega)) rfl rfl rfl ?_
    refine Z ?_
    rw [hwi hlt]
    exact ⟨(i + 1, true, { b with negH := true }, t_pos, t_neg ++ xs), by show l.length - (i + 1) < _; omega, ⟨by show i + 1 ≤ _; omega, fun _ => hk, fun h => by simp at h⟩, ⟨rfl, rfl, rfl, rfl, rfl, rfl, rfl, rfl, rfl, trivial⟩, rfl, k'g rfl⟩
   ·have hk := RE_Eh_10 (x := ⟨10, xk, xv, xs, xr⟩) hre hb rfl
    rw [← htk] at hk
    refine Z ?_
    rw [u32w]
    rw [hwi hlt]
    exact ⟨(i + 1, true, { b with flags := xv % 4294967296 }, t_pos, t_neg), by show l.length - (i + 1) < _; omega, ⟨by show i + 1 ≤ _; omega, fun _ => hk, fun h => by simp at h⟩, ⟨rfl, rfl, rfl, rfl, rfl, rfl, rfl, rfl, rfl, trivial⟩, rfl, k'g rfl⟩
   ·have hv := k'4m B xs (d - 1) hxs (by omega) (by omega)
    have hm0 : (b.exs.map Em.d).length ≤ l.length := by
     obtain ⟨h_attrs, l_attrs, h_start, h_time, h_count, h_sum, l_sum, h_min, l_min, h_max, l_max, h_scale, h_zero, h_pos, l_pos, z_pos, h_neg, l_neg, z_neg, h_exs, l_exs, h_flags, h_thr, h_u⟩ := hre
     simp only [List.length_map]; omega
    cases hok : okEm xs (d - 1) with
    | none =>
     rw [hok] at hv
     unfold rEmT at hv
     dsimp only at hv
     have hno : RR = none := by
      obtain ⟨h_attrs, l_attrs, h_start, h_time, h_count, h_sum, l_sum, h_min, l_min, h_max, l_max, h_scale, h_zero, h_pos, l_pos, z_pos, h_neg, l_neg, z_neg, h_exs, l_exs, h_flags, h_thr, h_u⟩ := hre
      rw [← hRR]
      refine tellEh_no_exs (k'1f (i + 1) ?_)
      rw [htk, k'4, show isT tbQ ⟨11, xk, xv, xs, xr⟩ = true from hb]
      have := k'2 (x := ⟨11, xk, xv, xs, xr⟩) h_exs
      rw [if_pos rfl, hok] at this
      exact this
     refine Z ?_
     rw [k'b 1 (by omega) (by omega) (by omega) hd2]
     refine k'8 [] (hv) rfl rfl rfl ?_
     refine l_o0 rfl ?_
     refine adm ?_
     (try refine k'h rfl ?_)
     refine k'd (fst := false) 1 rfl rfl rfl ?_
     refine k'3 (.loadMov (q := owT (b.exs.map Em.d)) rfl rfl rfl rfl rfl rfl rfl) rfl rfl ?_
     refine Z ?_
     refine k'3 (.buildSlice (es := [Em.d noEm]) rfl rfl rfl rfl rfl rfl (by intro x hx; simp at hx; subst hx; rfl) (by simp) (by decide) (by decide)) rfl rfl ?_
     have hm : (b.exs.map Em.d).length + [Em.d noEm].length ≤ most := by simp [most] at *; omega
     refine k'3 (.append' rfl rfl rfl rfl ⟨_, _, rfl, rfl, by intro q; simp⟩ rfl rfl rfl rfl rfl (by rw [show [Em.d noEm] = [noEm].map Em.d from rfl, ← List.map_append]; exact Em_fits _) (by decide) rfl hm rfl) rfl rfl ?_
     refine k'd (fst := false) 2 rfl rfl rfl ?_
     refine k'3 (.storeMov rfl rfl rfl rfl rfl rfl rfl (Nat.le_of_ble_eq_true rfl) rfl) rfl rfl ?_
     refine Z ?_
     rw [hwi hlt]
     exact ⟨(i + 1, false, { b with exs := b.exs ++ [noEm] }, t_pos, t_neg), by show l.length - (i + 1) < _; omega, ⟨by show i + 1 ≤ _; omega, fun h => by simp at h, fun _ => hno⟩, ⟨rfl, rfl, rfl, rfl, rfl, rfl, rfl, rfl, rfl, trivial⟩, rfl, k'g (by unfold EhC; simp only [List.map_append]; rfl)⟩
    | some v =>
     rw [hok] at hv
     unfold rEmT at hv
     dsimp only at hv
     have hk := RE_Eh_11 (x := ⟨11, xk, xv, xs, xr⟩) (v := v) hok hre hb rfl
     rw [← htk] at hk
     refine Z ?_
     rw [k'b 1 (by omega) (by omega) (by omega) hd2]
     refine k'8 [] (hv) rfl rfl rfl ?_
     refine l_o0 rfl ?_
     refine adm ?_
     (try refine k'h rfl ?_)
     refine k'd (fst := false) 1 rfl rfl rfl ?_
     refine k'3 (.loadMov (q := owT (b.exs.map Em.d)) rfl rfl rfl rfl rfl rfl rfl) rfl rfl ?_
     refine Z ?_
     refine k'3 (.buildSlice (es := [Em.d v]) rfl rfl rfl rfl rfl rfl (by intro x hx; simp at hx; subst hx; rfl) (by simp) (by decide) (by decide)) rfl rfl ?_
     have hm : (b.exs.map Em.d).length + [Em.d v].length ≤ most := by simp [most] at *; omega
     refine k'3 (.append' rfl rfl rfl rfl ⟨_, _, rfl, rfl, by intro q; simp⟩ rfl rfl rfl rfl rfl (by rw [show [Em.d v] = [v].map Em.d from rfl, ← List.map_append]; exact Em_fits _) (by decide) rfl hm rfl) rfl rfl ?_
     refine k'd (fst := false) 2 rfl rfl rfl ?_
     refine k'3 (.storeMov rfl rfl rfl rfl rfl rfl rfl (Nat.le_of_ble_eq_true rfl) rfl) rfl rfl ?_
     refine Z ?_
     rw [hwi hlt]
     exact ⟨(i + 1, true, { b with exs := b.exs ++ [v] }, t_pos, t_neg), by show l.length - (i + 1) < _; omega, ⟨by show i + 1 ≤ _; omega, fun _ => hk, fun h => by simp at h⟩, ⟨rfl, rfl, rfl, rfl, rfl, rfl, rfl, rfl, rfl, trivial⟩, rfl, k'g (by unfold EhC; simp only [List.map_append]; rfl)⟩
   ·have hk := RE_Eh_12 (x := ⟨12, xk, xv, xs, xr⟩) hre hb rfl
    rw [← htk] at hk
    refine Z ?_
    rw [hwi hlt]
    exact ⟨(i + 1, true, { b with minH := true, min := xv }, t_pos, t_neg), by show l.length - (i + 1) < _; omega, ⟨by show i + 1 ≤ _; omega, fun _ => hk, fun h => by simp at h⟩, ⟨rfl, rfl, rfl, rfl, rfl, rfl, rfl, rfl, rfl, trivial⟩, rfl, k'g rfl⟩
   ·have hk := RE_Eh_13 (x := ⟨13, xk, xv, xs, xr⟩) hre hb rfl
    rw [← htk] at hk
    refine Z ?_
    rw [hwi hlt]
    exact ⟨(i + 1, true, { b with maxH := true, max := xv }, t_pos, t_neg), by show l.length - (i + 1) < _; omega, ⟨by show i + 1 ≤ _; omega, fun _ => hk, fun h => by simp at h⟩, ⟨rfl, rfl, rfl, rfl, rfl, rfl, rfl, rfl, rfl, trivial⟩, rfl, k'g rfl⟩
   ·have hk := RE_Eh_14 (x := ⟨14, xk, xv, xs, xr⟩) hre hb rfl
    rw [← htk] at hk
    refine Z ?_
    rw [hwi hlt]
    exact ⟨(i + 1, true, { b with thr := xv }, t_pos, t_neg), by show l.length - (i + 1) < _; omega, ⟨by show i + 1 ≤ _; omega, fun _ => hk, fun h => by simp at h⟩, ⟨rfl, rfl, rfl, rfl, rfl, rfl, rfl, rfl, rfl, trivial⟩, rfl, k'g rfl⟩
  ·have he : i = l.length := by omega
   subst he
   refine Z ?_
   rw [hlen, show decide ((l.length : Int) < l.length) = false from decide_eq_false (by omega)]
   cases ok
   ·refine Z ?_
    rw [i3 rfl]
    unfold rEhT
    exact k'j rfl
   have hre := i2 rfl
   rw [List.take_length] at hre
   have hf := RE_Eh_fin hre
   rw [hRR] at hf
   rw [hf]
   have hl_pos : t_pos.length ≤ wt l := by obtain ⟨h_attrs, l_attrs, h_start, h_time, h_count, h_sum, l_sum, h_min, l_min, h_max, l_max, h_scale, h_zero, h_pos, l_pos, z_pos, h_neg, l_neg, z_neg, h_exs, l_exs, h_flags, h_thr, h_u⟩ := hre; rw [l_pos]; exact Nat.le_trans (k'3a (fun x hx => w2 x (List.mem_filter.1 hx).1) 8) (k'1l _ _)
   have hl_neg : t_neg.length ≤ wt l := by obtain ⟨h_attrs, l_attrs, h_start, h_time, h_count, h_sum, l_sum, h_min, l_min, h_max, l_max, h_scale, h_zero, h_pos, l_pos, z_pos, h_neg, l_neg, z_neg, h_exs, l_exs, h_flags, h_thr, h_u⟩ := hre; rw [l_neg]; exact Nat.le_trans (k'3a (fun x hx => w2 x (List.mem_filter.1 hx).1) 9) (k'1l _ _)
   have c_pos := k'3j B t_pos (d - 1) (by unfold big; omega) (by omega) (by omega)
   have c_neg := k'3j B t_neg (d - 1) (by unfold big; omega) (by omega) (by omega)
   have hno : b.pos = noBk ∧ b.neg = noBk := by obtain ⟨h_attrs, l_attrs, h_start, h_time, h_count, h_sum, l_sum, h_min, l_min, h_max, l_max, h_scale, h_zero, h_pos, l_pos, z_pos, h_neg, l_neg, z_neg, h_exs, l_exs, h_flags, h_thr, h_u⟩ := hre; exact ⟨z_pos, z_neg⟩
   clear hre hf hRR i2 i3
   have hD : ∀ b : Eh, b.d = .agg [slD ((b.attrs.map Kv.sh).map KVs.d), .int .u64 b.start, .int .u64 b.time, .int .u64 b.count, .bool b.sumH, .int .u64 b.sum, .bool b.minH, .int .u64 b.min, .bool b.maxH, .int .u64 b.max, .int .i32 b.scale, .int .u64 b.zero, .bool b.posH, .int .i32 b.pos.off, slD (b.pos.cs.map uD), .str b.pos.u, .bool b.negH, .int .i32 b.neg.off, slD (b.neg.cs.map uD), .str b.neg.u, slD (b.exs.map Em.d), .int .u32 b.flags, .int .u64 b.thr, .str b.u] := fun b => by unfold Eh.d; rw [← ks_map]
   unfold rbT at *
   obtain ⟨attrs, start, time, count, sumH, sum, minH, min, maxH, max, scale, zer, posH, pos, negH, neg, exs, flags, thr, u⟩ := b
   obtain ⟨rfl, rfl⟩ := hno
   try dsimp only at *
   cases posH
   ·cases negH
    ·have hE : endEh d ⟨attrs, start, time, count, sumH, sum, minH, min, maxH, max, scale, zer, false, noBk, false, noBk, exs, flags, thr, u⟩ t_pos t_neg = some ⟨attrs, start, time, count, sumH, sum, minH, min, maxH, max, scale, zer, false, noBk, false, noBk, exs, flags, thr, u⟩ := by
      unfold endEh
      simp only [sideO, if_true, if_false, Bool.false_eq_true]
     rw [hE, show rEhT (some ⟨attrs, start, time, count, sumH, sum, minH, min, maxH, max, scale, zer, false, noBk, false, noBk, exs, flags, thr, u⟩) = .tup [.d (Eh.d ⟨attrs, start, time, count, sumH, sum, minH, min, maxH, max, scale, zer, false, noBk, false, noBk, exs, flags, thr, u⟩), .d (.bool true)] from rfl]
     refine Z ?_
     exact l_end trivial (by decide) rfl rfl (by rw [hD]; rfl) rfl rfl
    cases hk_neg : okB t_neg (d - 1) with
    | none =>
     rw [hk_neg] at c_neg
     try dsimp only at c_neg
     have hE : endEh d ⟨attrs, start, time, count, sumH, sum, minH, min, maxH, max, scale, zer, false, noBk, true, noBk, exs, flags, thr, u⟩ t_pos t_neg = none := by
      unfold endEh
      simp only [sideO, if_true, if_false, Bool.false_eq_true, hk_neg]
     rw [hE, show rEhT none = .tup [.d noEh.d, .d (.bool false)] from rfl]
     refine Z ?_
     rw [k'b 1 (by omega) (by omega) (by omega) hd2]
     refine k'8 [] (c_neg) rfl rfl rfl ?_
     exact O
    | some v_neg =>
     rw [hk_neg] at c_neg
     try dsimp only at c_neg
     have hE : endEh d ⟨attrs, start, time, count, sumH, sum, minH, min, maxH, max, scale, zer, false, noBk, true, noBk, exs, flags, thr, u⟩ t_pos t_neg = some ⟨attrs, start, time, count, sumH, sum, minH, min, maxH, max, scale, zer, false, noBk, true, v_neg, exs, flags, thr, u⟩ := by
      unfold endEh
      simp only [sideO, if_true, if_false, Bool.false_eq_true, hk_neg]
     rw [hE, show rEhT (some ⟨attrs, start, time, count, sumH, sum, minH, min, maxH, max, scale, zer, false, noBk, true, v_neg, exs, flags, thr, u⟩) = .tup [.d (Eh.d ⟨attrs, start, time, count, sumH, sum, minH, min, maxH, max, scale, zer, false, noBk, true, v_neg, exs, flags, thr, u⟩), .d (.bool true)] from rfl]
     refine Z ?_
     rw [k'b 1 (by omega) (by omega) (by omega) hd2]
     refine l_cw [] (c_neg) rfl rfl rfl ?_
     exact l_end trivial (by decide) rfl rfl (by rw [hD]; rfl) rfl rfl
   cases hk_pos : okB t_pos (d - 1) with
   | none =>
    rw [hk_pos] at c_pos
    try dsimp only at c_pos
    have hE : endEh d ⟨attrs, start, time, count, sumH, sum, minH, min, maxH, max, scale, zer, true, noBk, negH, noBk, exs, flags, thr, u⟩ t_pos t_neg = none := by
     unfold endEh
     simp only [sideO, if_true, if_false, Bool.false_eq_true, hk_pos]
    rw [hE, show rEhT none = .tup [.d noEh.d, .d (.bool false)] from rfl]
    refine Z ?_
    rw [k'b 1 (by omega) (by omega) (by omega) hd2]
    refine k'8 [] (c_pos) rfl rfl rfl ?_
    exact O
   | some v_pos =>
    rw [hk_pos] at c_pos
    try dsimp only at c_pos
    cases negH
    ·have hE : endEh d ⟨attrs, start, time, count, sumH, sum, minH, min, maxH, max, scale, zer, true, noBk, false, noBk, exs, flags, thr, u⟩ t_pos t_neg = some ⟨attrs, start, time, count, sumH, sum, minH, min, maxH, max, scale, zer, true, v_pos, false, noBk, exs, flags, thr, u⟩ := by
      unfold endEh
      simp only [sideO, if_true, if_false, Bool.false_eq_true, hk_pos]
     rw [hE, show rEhT (some ⟨attrs, start, time, count, sumH, sum, minH, min, maxH, max, scale, zer, true, v_pos, false, noBk, exs, flags, thr, u⟩) = .tup [.d (Eh.d ⟨attrs, start, time, count, sumH, sum, minH, min, maxH, max, scale, zer, true, v_pos, false, noBk, exs, flags, thr, u⟩), .d (.bool true)] from rfl]
     refine Z ?_
     rw [k'b 1 (by omega) (by omega) (by omega) hd2]
     refine l_cw [] (c_pos) rfl rfl rfl ?_
     exact l_end trivial (by decide) rfl rfl (by rw [hD]; rfl) rfl rfl
    cases hk_neg : okB t_neg (d - 1) with
    | none =>
     rw [hk_neg] at c_neg
     try dsimp only at c_neg
     have hE : endEh d ⟨attrs, start, time, count, sumH, sum, minH, min, maxH, max, scale, zer, true, noBk, true, noBk, exs, flags, thr, u⟩ t_pos t_neg = none := by
      unfold endEh
      simp only [sideO, if_true, if_false, Bool.false_eq_true, hk_pos, hk_neg]
     rw [hE, show rEhT none = .tup [.d noEh.d, .d (.bool false)] from rfl]
     refine Z ?_
     rw [k'b 1 (by omega) (by omega) (by omega) hd2]
     refine l_cw [] (c_pos) rfl rfl rfl ?_
     rw [k'b 1 (by omega) (by omega) (by omega) hd2]
     refine k'8 [] (c_neg) rfl rfl rfl ?_
     exact O
    | some v_neg =>
     rw [hk_neg] at c_neg
     try dsimp only at c_neg
     have hE : endEh d ⟨attrs, start, time, count, sumH, sum, minH, min, maxH, max, scale, zer, true, noBk, true, noBk, exs, flags, thr, u⟩ t_pos t_neg = some ⟨attrs, start, time, count, sumH, sum, minH, min, maxH, max, scale, zer, true, v_pos, true, v_neg, exs, flags, thr, u⟩ := by
      unfold endEh
      simp only [sideO, if_true, if_false, Bool.false_eq_true, hk_pos, hk_neg]
     rw [hE, show rEhT (some ⟨attrs, start, time, count, sumH, sum, minH, min, maxH, max, scale, zer, true, v_pos, true, v_neg, exs, flags, thr, u⟩) = .tup [.d (Eh.d ⟨attrs, start, time, count, sumH, sum, minH, min, maxH, max, scale, zer, true, v_pos, true, v_neg, exs, flags, thr, u⟩), .d (.bool true)] from rfl]
     refine Z ?_
     rw [k'b 1 (by omega) (by omega) (by omega) hd2]
     refine l_cw [] (c_pos) rfl rfl rfl ?_
     rw [k'b 1 (by omega) (by omega) (by omega) hd2]
     refine l_cw [] (c_neg) rfl rfl rfl ?_
     exact l_end trivial (by decide) rfl rfl (by rw [hD]; rfl) rfl rfl
