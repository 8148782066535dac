/- The reference: may values and attributes be? -/
import Derived.Test.YtcfkbpddmdfbaaaGreatDoorR6
import Derived.Test.YtcfkbpddmdfbaaaGreatDoorRV
set_option linter.unusedSimpArgs false
set_option linter.unusedVariables false
set_option maxRecDepth 100000
namespace Go.Proofs.YtcfkbpddmdfbaaaGreatDoor
open Go Go.Abs
theorem k'47 {C : List Nat} {tb : Nat → Nat → Bool} (h : ∀ n k, k < 8 → tkB C n k = tb n k) (s : List UInt8) (d : Int) : unkOk C s d = (decide (0 ≤ d) && k'1a tb s d) := by
 unfold unkOk k'1a
 by_cases hd : d < 0
 ·rw [okL_neg hd, decide_eq_false (by omega)]; rfl
 ·rw [decide_eq_true (by omega), Bool.true_and]
  cases ha : all s d with
  | ok l =>
   have ho := okL_mk (by omega) ha
   rw [ho]
   obtain ⟨-, w2⟩ := okL_wt ho
   show (!(l.any fun r => tkB C r.num r.kind)) = (!(l.any fun r => tb r.num r.kind))
   congr 1
   rw [Bool.eq_iff_iff, List.any_eq_true, List.any_eq_true]
   exact ⟨fun ⟨x, a, b⟩ => ⟨x, a, by rw [← h _ _ (w2 x a).kind]; exact b⟩, fun ⟨x, a, b⟩ => ⟨x, a, by rw [h _ _ (w2 x a).kind]; exact b⟩⟩
  | error e =>
   cases ho : okL s d with
   | none => rfl
   | some l => obtain ⟨-, -, h1, -⟩ := okL_some ho; rw [ha] at h1; simp at h1
theorem unk_lt {tb : Nat → Nat → Bool} {s : List UInt8} {d : Int} (h : (decide (0 ≤ d) && k'1a tb s d) = true) : 0 ≤ d := by
 simp at h; exact h.1
variable (B : Fr)
theorem unkV_calls (s : List UInt8) (d : Int) (hl : s.length < big) (hd1 : -9223372036854775808 ≤ d) (hd2 : d < 9223372036854775808) : k'0 (cx B) 50 [sT s, .d (.int .i64 d), .d (.sl false ([10, 16, 24, 33, 42, 50, 58].map iD))] [] (.d (.bool (decide (0 ≤ d) && k'1a tbV s d))) [] := by
 have h := k'c B [10, 16, 24, 33, 42, 50, 58] (by decide) (by decide) s d hl hd1 hd2
 rw [k'47 tk_V] at h; exact h
theorem unkK_calls (s : List UInt8) (d : Int) (hl : s.length < big) (hd1 : -9223372036854775808 ≤ d) (hd2 : d < 9223372036854775808) : k'0 (cx B) 50 [sT s, .d (.int .i64 d), .d (.sl false ([10, 18].map iD))] [] (.d (.bool (decide (0 ≤ d) && k'1a tbK s d))) [] := by
 have h := k'c B [10, 18] (by decide) (by decide) s d hl hd1 hd2
 rw [k'47 tk_K] at h; exact h
theorem unkL_calls (s : List UInt8) (d : Int) (hl : s.length < big) (hd1 : -9223372036854775808 ≤ d) (hd2 : d < 9223372036854775808) : k'0 (cx B) 50 [sT s, .d (.int .i64 d), .d (.sl false ([10].map iD))] [] (.d (.bool (decide (0 ≤ d) && k'1a tbL s d))) [] := by
 have h := k'c B [10] (by decide) (by decide) s d hl hd1 hd2
 rw [k'47 tk_L] at h; exact h
def MVat (n : Nat) : Prop := ∀ (a : Vl) (xa : D) (d : Int), a.sz < n → a.sz < big → a.R xa → -9223372036854775000 ≤ d → d < 9223372036854775808 → k'0 (cx B) 264 [.d xa, .d (.int .i64 d)] [] (.d (.bool (a.may d))) []
def MKat (n : Nat) : Prop := ∀ (a : Kv) (xa : D) (d : Int), a.sz < n → a.sz < big → a.R xa → -9223372036854775000 ≤ d → d < 9223372036854775808 → k'0 (cx B) 199 [.d xa, .d (.int .i64 d)] [] (.d (.bool (a.may d))) []
theorem k'1i {α : Type} {p : α → Bool} {l : List α} {i : Nat} {x : α} (h : (l.take i).all p = true) (hx : l[i]? = some x) (hp : p x = true) : (l.take (i + 1)).all p = true := by
 rw [List.take_add_one, hx, List.all_append, h]; simp [hp]
theorem k'1r (n : Nat) (hK : MKat B n) (l : List Kv) (z : Bool) (xs : List D) (d : Int) (hs : ∀ k ∈ l, k.sz < n) (hb : Kv.szs l < big) (hR : Kv.Rs l xs) (hd1 : -9223372036854775000 ≤ d) (hd2 : d < 9223372036854775808) : k'0 (cx B) 148 [.d (.sl z xs), .d (.int .i64 d)] [] (.d (.bool (Kv.mays l d))) [] := by
 have hla := Kv.Rs_len hR
 have hsh := Kv.Rs_sh hR
 have hll := Kv.len_szs l
 unfold big at hb
 rw [Kv.mays_all]
 refine l_bw Tryz.func148 0 [] ?_
 refine k'8 (fun i : Nat => xs.length - i) (fun i => [(0, .d (.sl z xs)), (1, .d (.int .i64 d)), (5, iT i)]) (fun _ => []) (fun i => i ≤ xs.length ∧ (l.take i).all (fun k => k.may d) = true) 0 ⟨by omega, rfl⟩ ⟨rfl, rfl, rfl, trivial⟩ rfl 0 rfl (fun _ => rfl) (fun _ => rfl) (fun _ => rfl) ?_
 rintro i ⟨i1, i2⟩
 refine Y ?_
 by_cases hlt : i < xs.length
 ·rw [show decide ((i : Int) < xs.length) = true from decide_eq_true (by omega)]
  obtain ⟨x, hxi⟩ : ∃ x, xs[i]? = some x := ⟨_, List.getElem?_eq_getElem hlt⟩
  obtain ⟨v, hv, hvr⟩ := Kv.Rs_at hR hxi
  have hmem := List.mem_of_getElem? hv
  have hvs := Kv.sz_mem hmem
  have hc := hK v x d (hs v hmem) (by unfold big; omega) hvr hd1 hd2
  obtain ⟨x0, x1, x2, x3, x4, x5, x6, x7, x8, x9, x10, x11, x12, rfl⟩ := hsh x (List.mem_of_getElem? hxi)
  refine Y ?_
  refine k'1 (.indexAddr (k := .i64) (n := i) (es := xs) rfl rfl rfl rfl (.inl ⟨_, rfl⟩) rfl (by omega) (by simpa using hxi) rfl (by decide)) rfl rfl ?_
  refine Y ?_
  refine l_cw [] (hc) rfl rfl rfl ?_
  cases hm : v.may d
  ·rw [show (l.all fun k => k.may d) = false from by
    cases hh : (l.all fun k => k.may d) with
    | false => rfl
    | true => have := List.all_eq_true.1 hh v hmem; rw [hm] at this; simp at this]
   exact Z
  refine Y ?_
  rw [wS i (by omega)]
  exact ⟨i + 1, by omega, ⟨by omega, k'1i i2 hv hm⟩, ⟨rfl, rfl, rfl, trivial⟩, rfl, k'z rfl⟩
 ·rw [show decide ((i : Int) < xs.length) = false from decide_eq_false (by omega)]
  rw [List.take_of_length_le (by omega)] at i2
  rw [i2]
  exact Z
set_option maxHeartbeats 8000000 in
theorem rmayV (n : Nat) (ihV : MVat B n) (ihK : MKat B n) : MVat B (n + 1) := by
 rintro ⟨kind, s, bb, nn, l, m, inner, u⟩ xa d hsz hbig ⟨zl, ls, zm, ms, rfl, hl, hm⟩ hd1 hd2
 unfold Vl.sz at hsz hbig
 unfold big at hbig
 have hla := Vl.Rs_len hl
 have hlm := Kv.Rs_len hm
 have hsh := Vl.Rs_sh hl
 have hll := Vl.len_szs l
 generalize hR : (Vl.mk kind s bb nn l m inner u).may d = R
 by_cases hd0 : d < 0
 ·rw [show R = false from by rw [← hR]; unfold Vl.may; rw [decide_eq_false (by omega)]; simp]
  refine l_bw Tryz.func264 0 [] ?_
  refine xw ?_
  rw [show decide (d < 0) = true from decide_eq_true hd0]
  exact Z
 have cu := unkV_calls B u d (by unfold big; omega) (by omega) hd2
 have ct := k'17 B s (by unfold big; omega)
 have ci := unkL_calls B inner (d - 1) (by unfold big; omega) (by omega) (by omega)
 by_cases hk0 : kind < 0 ∨ 7 < kind
 ·rw [show R = false from by
   rw [← hR]
   have : k'1l kind s bb nn l.length m.length inner = false := by
    unfold k'1l
    rw [if_neg (by omega), if_neg (by omega), if_neg (by omega), if_neg (by omega), if_neg (by omega), if_neg (by omega), if_neg (by omega)]
   unfold Vl.may; rw [this]; simp]
  rcases hk0 with h | h
  ·refine l_bw Tryz.func264 0 [] ?_
   refine xw ?_
   rw [show decide (d < 0) = false from decide_eq_false hd0]
   refine xw ?_
   rw [show decide (kind < 0) = true from decide_eq_true h]
   exact Z
  ·refine l_bw Tryz.func264 0 [] ?_
   refine xw ?_
   rw [show decide (d < 0) = false from decide_eq_false hd0]
   refine xw ?_
   rw [show decide (kind < 0) = false from decide_eq_false (by omega)]
   refine xw ?_
   rw [show decide (kind > 7) = true from decide_eq_true h]
   exact Z
 have hk8 : kind = 0 ∨ kind = 1 ∨ kind = 2 ∨ kind = 3 ∨ kind = 4 ∨ kind = 5 ∨ kind = 6 ∨ kind = 7 := by omega
 rcases hk8 with rfl | rfl | rfl | rfl | rfl | rfl | rfl | rfl
 ·-- kind 0
  refine l_bw Tryz.func264 0 [] ?_
  refine xw ?_
  rw [show decide (d < 0) = false from decide_eq_false hd0]
  refine Y ?_
  refine x_cw [] (k'1n B) rfl rfl rfl ?_
  refine x_cw [] (cu) rfl rfl rfl ?_
  cases hu : (decide (0 ≤ d) && k'1a tbV u d)
  ·rw [show R = false from by rw [← hR]; unfold Vl.may k'1l k'1s; simp_all]
   exact Z
  refine Y ?_
  cases h_s : (s == ({ data := #[] } : ByteArray).data.toList)
  ·have h_s' : (s == []) = false := h_s
   refine Y ?_
   rw [show R = false from by rw [← hR]; unfold Vl.may k'1l k'1s; simp_all]
   exact Z
  have h_s' : (s == []) = true := h_s
  refine Y ?_
  cases h_b : bb
  rotate_left
  ·refine Y ?_
   rw [show R = false from by rw [← hR]; unfold Vl.may k'1l k'1s; simp_all]
   exact Z
  refine Y ?_
  cases h_n : ((nn : Int) != 0)
  rotate_left
  ·refine Y ?_
   rw [show R = false from by rw [← hR]; unfold Vl.may k'1l k'1s; simp_all]
   exact Z
  refine Y ?_
  cases h_l : decide ((ls.length : Int) > 0)
  rotate_left
  ·have h_l' : l.length ≠ 0 := by have := of_decide_eq_true h_l; omega
   refine Y ?_
   rw [show R = false from by rw [← hR]; unfold Vl.may k'1l k'1s; simp_all]
   exact Z
  have h_l' : l.length = 0 := by have := of_decide_eq_false h_l; omega
  refine Y ?_
  cases h_m : decide ((ms.length : Int) > 0)
  rotate_left
  ·have h_m' : m.length ≠ 0 := by have := of_decide_eq_true h_m; omega
   refine Y ?_
   rw [show R = false from by rw [← hR]; unfold Vl.may k'1l k'1s; simp_all]
   exact Z
  have h_m' : m.length = 0 := by have := of_decide_eq_false h_m; omega
  refine Y ?_
  cases h_i : (inner == ({ data := #[] } : ByteArray).data.toList)
  ·have h_i' : (inner == []) = false := h_i
   refine Y ?_
   rw [show R = false from by rw [← hR]; unfold Vl.may k'1l k'1s; simp_all]
   exact Z
  have h_i' : (inner == []) = true := h_i
  refine Y ?_
  have hl0 : l = [] := List.length_eq_zero_iff.1 (by have := of_decide_eq_false h_l; omega)
  subst hl0
  have hm0 : m = [] := List.length_eq_zero_iff.1 (by have := of_decide_eq_false h_m; omega)
  subst hm0
  have hR2 : R = ((([] : List Vl).all fun v => v.may (d - 2)) && Kv.mays ([] : List Kv) (d - 2)) := by
   rw [← hR, ← Vl.mays_all]
   unfold Vl.may k'1l k'1s
   simp_all [Vl.mays, Kv.mays]
   try omega
  have hkeys := k'1r B n ihK ([] : List Kv) zm ms (d - 2) (fun k hk => by have := Kv.sz_mem hk; omega) (by unfold big; omega) hm (by omega) (by omega)
  rw [hR2]
  clear hR2 hR
  refine k'8 (fun i : Nat => ls.length - i) (fun i => [(1, .d (.int .i64 d)), (2, .ptr 0 0), (6, iT i)]) (fun _ => _) (fun i => i ≤ ls.length ∧ (([] : List Vl).take i).all (fun k => k.may (d - 2)) = true) 0 ⟨by omega, rfl⟩ ⟨rfl, rfl, rfl, trivial⟩ rfl 1 rfl (fun _ => rfl) (fun _ => rfl) (fun _ => rfl) ?_
  rintro i ⟨i1, i2⟩
  refine Y ?_
  by_cases hlt : i < ls.length
  ·rw [show decide ((i : Int) < ls.length) = true from decide_eq_true (by omega)]
   obtain ⟨x, hxi⟩ : ∃ x, ls[i]? = some x := ⟨_, List.getElem?_eq_getElem hlt⟩
   obtain ⟨v, hv, hvr⟩ := Vl.Rs_at hl hxi
   have hmem := List.mem_of_getElem? hv
   have hvs := Vl.sz_mem hmem
   have hc := ihV v x (d - 2) (by omega) (by unfold big; omega) hvr (by omega) (by omega)
   obtain ⟨x0, x1, x2, x3, x4, x5, x6, x7, x8, x9, rfl⟩ := hsh x (List.mem_of_getElem? hxi)
   refine Y ?_
   refine k'1 (.indexAddr (k := .i64) (n := i) (es := ls) rfl rfl rfl rfl (.inl ⟨_, rfl⟩) rfl (by omega) (by simpa using hxi) rfl (by decide)) rfl rfl ?_
   refine Y ?_
   rw [k'5 2 (by omega) (by omega) (by omega) hd2]
   refine l_cw [] (hc) rfl rfl rfl ?_
   cases h_e : v.may (d - 2)
   ·rw [show (([] : List Vl).all fun k => k.may (d - 2)) = false from by
     cases hh : (([] : List Vl).all fun k => k.may (d - 2)) with
     | false => rfl
     | true => have := List.all_eq_true.1 hh v hmem; rw [h_e] at this; simp at this]
    rw [Bool.false_and]
    exact Z
   refine Y ?_
   rw [wS i (by omega)]
   exact ⟨i + 1, by omega, ⟨by omega, k'1i i2 hv h_e⟩, ⟨rfl, rfl, rfl, trivial⟩, rfl, k'z rfl⟩
  ·rw [show decide ((i : Int) < ls.length) = false from decide_eq_false (by omega)]
   rw [List.take_of_length_le (by rw [← hla]; omega)] at i2
   rw [i2, Bool.true_and]
   refine Y ?_
   rw [k'5 2 (by omega) (by omega) (by omega) hd2]
   refine k'2 [] (hkeys) rfl rfl rfl ?_
   exact Z
 ·-- kind 1
  refine l_bw Tryz.func264 0 [] ?_
  refine xw ?_
  rw [show decide (d < 0) = false from decide_eq_false hd0]
  refine Y ?_
  refine x_cw [] (k'1n B) rfl rfl rfl ?_
  refine x_cw [] (cu) rfl rfl rfl ?_
  cases hu : (decide (0 ≤ d) && k'1a tbV u d)
  ·rw [show R = false from by rw [← hR]; unfold Vl.may k'1l k'1s; simp_all]
   exact Z
  refine Y ?_
  cases h_b : bb
  rotate_left
  ·refine Y ?_
   rw [show R = false from by rw [← hR]; unfold Vl.may k'1l k'1s; simp_all]
   exact Z
  refine Y ?_
  cases h_n : ((nn : Int) != 0)
  rotate_left
  ·refine Y ?_
   rw [show R = false from by rw [← hR]; unfold Vl.may k'1l k'1s; simp_all]
   exact Z
  refine Y ?_
  cases h_l : decide ((ls.length : Int) > 0)
  rotate_left
  ·have h_l' : l.length ≠ 0 := by have := of_decide_eq_true h_l; omega
   refine Y ?_
   rw [show R = false from by rw [← hR]; unfold Vl.may k'1l k'1s; simp_all]
   exact Z
  have h_l' : l.length = 0 := by have := of_decide_eq_false h_l; omega
  refine Y ?_
  cases h_m : decide ((ms.length : Int) > 0)
  rotate_left
  ·have h_m' : m.length ≠ 0 := by have := of_decide_eq_true h_m; omega
   refine Y ?_
   rw [show R = false from by rw [← hR]; unfold Vl.may k'1l k'1s; simp_all]
   exact Z
  have h_m' : m.length = 0 := by have := of_decide_eq_false h_m; omega
  refine Y ?_
  cases h_i : (inner == ({ data := #[] } : ByteArray).data.toList)
  ·have h_i' : (inner == []) = false := h_i
   refine Y ?_
   rw [show R = false from by rw [← hR]; unfold Vl.may k'1l k'1s; simp_all]
   exact Z
  have h_i' : (inner == []) = true := h_i
  refine Y ?_
  refine x_cw [] (ct) rfl rfl rfl ?_
  cases h_t : txt s
  ·refine Y ?_
   rw [show R = false from by rw [← hR]; unfold Vl.may k'1l k'1s; simp_all]
   exact Z
  refine Y ?_
  have hl0 : l = [] := List.length_eq_zero_iff.1 (by have := of_decide_eq_false h_l; omega)
  subst hl0
  have hm0 : m = [] := List.length_eq_zero_iff.1 (by have := of_decide_eq_false h_m; omega)
  subst hm0
  have hR2 : R = ((([] : List Vl).all fun v => v.may (d - 2)) && Kv.mays ([] : List Kv) (d - 2)) := by
   rw [← hR, ← Vl.mays_all]
   unfold Vl.may k'1l k'1s
   simp_all [Vl.mays, Kv.mays]
   try omega
  have hkeys := k'1r B n ihK ([] : List Kv) zm ms (d - 2) (fun k hk => by have := Kv.sz_mem hk; omega) (by unfold big; omega) hm (by omega) (by omega)
  rw [hR2]
  clear hR2 hR
  refine k'8 (fun i : Nat => ls.length - i) (fun i => [(1, .d (.int .i64 d)), (2, .ptr 0 0), (6, iT i)]) (fun _ => _) (fun i => i ≤ ls.length ∧ (([] : List Vl).take i).all (fun k => k.may (d - 2)) = true) 0 ⟨by omega, rfl⟩ ⟨rfl, rfl, rfl, trivial⟩ rfl 1 rfl (fun _ => rfl) (fun _ => rfl) (fun _ => rfl) ?_
  rintro i ⟨i1, i2⟩
  refine Y ?_
  by_cases hlt : i < ls.length
  ·rw [show decide ((i : Int) < ls.length) = true from decide_eq_true (by omega)]
   obtain ⟨x, hxi⟩ : ∃ x, ls[i]? = some x := ⟨_, List.getElem?_eq_getElem hlt⟩
   obtain ⟨v, hv, hvr⟩ := Vl.Rs_at hl hxi
   have hmem := List.mem_of_getElem? hv
   have hvs := Vl.sz_mem hmem
   have hc := ihV v x (d - 2) (by omega) (by unfold big; omega) hvr (by omega) (by omega)
   obtain ⟨x0, x1, x2, x3, x4, x5, x6, x7, x8, x9, rfl⟩ := hsh x (List.mem_of_getElem? hxi)
   refine Y ?_
   refine k'1 (.indexAddr (k := .i64) (n := i) (es := ls) rfl rfl rfl rfl (.inl ⟨_, rfl⟩) rfl (by omega) (by simpa using hxi) rfl (by decide)) rfl rfl ?_
   refine Y ?_
   rw [k'5 2 (by omega) (by omega) (by omega) hd2]
   refine l_cw [] (hc) rfl rfl rfl ?_
   cases h_e : v.may (d - 2)
   ·rw [show (([] : List Vl).all fun k => k.may (d - 2)) = false from by
     cases hh : (([] : List Vl).all fun k => k.may (d - 2)) with
     | false => rfl
     | true => have := List.all_eq_true.1 hh v hmem; rw [h_e] at this; simp at this]
    rw [Bool.false_and]
    exact Z
   refine Y ?_
   rw [wS i (by omega)]
   exact ⟨i + 1, by omega, ⟨by omega, k'1i i2 hv h_e⟩, ⟨rfl, rfl, rfl, trivial⟩, rfl, k'z rfl⟩
  ·rw [show decide ((i : Int) < ls.length) = false from decide_eq_false (by omega)]
   rw [List.take_of_length_le (by rw [← hla]; omega)] at i2
   rw [i2, Bool.true_and]
   refine Y ?_
   rw [k'5 2 (by omega) (by omega) (by omega) hd2]
   refine k'2 [] (hkeys) rfl rfl rfl ?_
   exact Z
 ·-- kind 2
  refine l_bw Tryz.func264 0 [] ?_
  refine xw ?_
  rw [show decide (d < 0) = false from decide_eq_false hd0]
  refine Y ?_
  refine x_cw [] (k'1n B) rfl rfl rfl ?_
  refine x_cw [] (cu) rfl rfl rfl ?_
  cases hu : (decide (0 ≤ d) && k'1a tbV u d)
  ·rw [show R = false from by rw [← hR]; unfold Vl.may k'1l k'1s; simp_all]
   exact Z
  refine Y ?_
  cases h_s : (s == ({ data := #[] } : ByteArray).data.toList)
  ·have h_s' : (s == []) = false := h_s
   refine Y ?_
   rw [show R = false from by rw [← hR]; unfold Vl.may k'1l k'1s; simp_all]
   exact Z
  have h_s' : (s == []) = true := h_s
  refine Y ?_
  cases h_n : ((nn : Int) != 0)
  rotate_left
  ·refine Y ?_
   rw [show R = false from by rw [← hR]; unfold Vl.may k'1l k'1s; simp_all]
   exact Z
  refine Y ?_
  cases h_l : decide ((ls.length : Int) > 0)
  rotate_left
  ·have h_l' : l.length ≠ 0 := by have := of_decide_eq_true h_l; omega
   refine Y ?_
   rw [show R = false from by rw [← hR]; unfold Vl.may k'1l k'1s; simp_all]
   exact Z
  have h_l' : l.length = 0 := by have := of_decide_eq_false h_l; omega
  refine Y ?_
  cases h_m : decide ((ms.length : Int) > 0)
  rotate_left
  ·have h_m' : m.length ≠ 0 := by have := of_decide_eq_true h_m; omega
   refine Y ?_
   rw [show R = false from by rw [← hR]; unfold Vl.may k'1l k'1s; simp_all]
   exact Z
  have h_m' : m.length = 0 := by have := of_decide_eq_false h_m; omega
  refine Y ?_
  cases h_i : (inner == ({ data := #[] } : ByteArray).data.toList)
  ·have h_i' : (inner == []) = false := h_i
   refine Y ?_
   rw [show R = false from by rw [← hR]; unfold Vl.may k'1l k'1s; simp_all]
   exact Z
  have h_i' : (inner == []) = true := h_i
  refine Y ?_
  have hl0 : l = [] := List.length_eq_zero_iff.1 (by have := of_decide_eq_false h_l; omega)
  subst hl0
  have hm0 : m = [] := List.length_eq_zero_iff.1 (by have := of_decide_eq_false h_m; omega)
  subst hm0
  have hR2 : R = ((([] : List Vl).all fun v => v.may (d - 2)) && Kv.mays ([] : List Kv) (d - 2)) := by
   rw [← hR, ← Vl.mays_all]
   unfold Vl.may k'1l k'1s
   simp_all [Vl.mays, Kv.mays]
   try omega
  have hkeys := k'1r B n ihK ([] : List Kv) zm ms (d - 2) (fun k hk => by have := Kv.sz_mem hk; omega) (by unfold big; omega) hm (by omega) (by omega)
  rw [hR2]
  clear hR2 hR
  refine k'8 (fun i : Nat => ls.length - i) (fun i => [(1, .d (.int .i64 d)), (2, .ptr 0 0), (6, iT i)]) (fun _ => _) (fun i => i ≤ ls.length ∧ (([] : List Vl).take i).all (fun k => k.may (d - 2)) = true) 0 ⟨by omega, rfl⟩ ⟨rfl, rfl, rfl, trivial⟩ rfl 1 rfl (fun _ => rfl) (fun _ => rfl) (fun _ => rfl) ?_
  rintro i ⟨i1, i2⟩
  refine Y ?_
  by_cases hlt : i < ls.length
  ·rw [show decide ((i : Int) < ls.length) = true from decide_eq_true (by omega)]
   obtain ⟨x, hxi⟩ : ∃ x, ls[i]? = some x := ⟨_, List.getElem?_eq_getElem hlt⟩
   obtain ⟨v, hv, hvr⟩ := Vl.Rs_at hl hxi
   have hmem := List.mem_of_getElem? hv
   have hvs := Vl.sz_mem hmem
   have hc := ihV v x (d - 2) (by omega) (by unfold big; omega) hvr (by omega) (by omega)
   obtain ⟨x0, x1, x2, x3, x4, x5, x6, x7, x8, x9, rfl⟩ := hsh x (List.mem_of_getElem? hxi)
   refine Y ?_
   refine k'1 (.indexAddr (k := .i64) (n := i) (es := ls) rfl rfl rfl rfl (.inl ⟨_, rfl⟩) rfl (by omega) (by simpa using hxi) rfl (by decide)) rfl rfl ?_
   refine Y ?_
   rw [k'5 2 (by omega) (by omega) (by omega) hd2]
   refine l_cw [] (hc) rfl rfl rfl ?_
   cases h_e : v.may (d - 2)
   ·rw [show (([] : List Vl).all fun k => k.may (d - 2)) = false from by
     cases hh : (([] : List Vl).all fun k => k.may (d - 2)) with
     | false => rfl
     | true => have := List.all_eq_true.1 hh v hmem; rw [h_e] at this; simp at this]
    rw [Bool.false_and]
    exact Z
   refine Y ?_
   rw [wS i (by omega)]
   exact ⟨i + 1, by omega, ⟨by omega, k'1i i2 hv h_e⟩, ⟨rfl, rfl, rfl, trivial⟩, rfl, k'z rfl⟩
  ·rw [show decide ((i : Int) < ls.length) = false from decide_eq_false (by omega)]
   rw [List.take_of_length_le (by rw [← hla]; omega)] at i2
   rw [i2, Bool.true_and]
   refine Y ?_
   rw [k'5 2 (by omega) (by omega) (by omega) hd2]
   refine k'2 [] (hkeys) rfl rfl rfl ?_
   exact Z
 ·-- kind 3
  refine l_bw Tryz.func264 0 [] ?_
  refine xw ?_
  rw [show decide (d < 0) = false from decide_eq_false hd0]
  refine Y ?_
  refine x_cw [] (k'1n B) rfl rfl rfl ?_
  refine x_cw [] (cu) rfl rfl rfl ?_
  cases hu : (decide (0 ≤ d) && k'1a tbV u d)
  ·rw [show R = false from by rw [← hR]; unfold Vl.may k'1l k'1s; simp_all]
   exact Z
  refine Y ?_
  cases h_s : (s == ({ data := #[] } : ByteArray).data.toList)
  ·have h_s' : (s == []) = false := h_s
   refine Y ?_
   rw [show R = false from by rw [← hR]; unfold Vl.may k'1l k'1s; simp_all]
   exact Z
  have h_s' : (s == []) = true := h_s
  refine Y ?_
  cases h_b : bb
  rotate_left
  ·refine Y ?_
   rw [show R = false from by rw [← hR]; unfold Vl.may k'1l k'1s; simp_all]
   exact Z
  refine Y ?_
  cases h_l : decide ((ls.length : Int) > 0)
  rotate_left
  ·have h_l' : l.length ≠ 0 := by have := of_decide_eq_true h_l; omega
   refine Y ?_
   rw [show R = false from by rw [← hR]; unfold Vl.may k'1l k'1s; simp_all]
   exact Z
  have h_l' : l.length = 0 := by have := of_decide_eq_false h_l; omega
  refine Y ?_
  cases h_m : decide ((ms.length : Int) > 0)
  rotate_left
  ·have h_m' : m.length ≠ 0 := by have := of_decide_eq_true h_m; omega
   refine Y ?_
   rw [show R = false from by rw [← hR]; unfold Vl.may k'1l k'1s; simp_all]
   exact Z
  have h_m' : m.length = 0 := by have := of_decide_eq_false h_m; omega
  refine Y ?_
  cases h_i : (inner == ({ data := #[] } : ByteArray).data.toList)
  ·have h_i' : (inner == []) = false := h_i
   refine Y ?_
   rw [show R = false from by rw [← hR]; unfold Vl.may k'1l k'1s; simp_all]
   exact Z
  have h_i' : (inner == []) = true := h_i
  refine Y ?_
  have hl0 : l = [] := List.length_eq_zero_iff.1 (by have := of_decide_eq_false h_l; omega)
  subst hl0
  have hm0 : m = [] := List.length_eq_zero_iff.1 (by have := of_decide_eq_false h_m; omega)
  subst hm0
  have hR2 : R = ((([] : List Vl).all fun v => v.may (d - 2)) && Kv.mays ([] : List Kv) (d - 2)) := by
   rw [← hR, ← Vl.mays_all]
   unfold Vl.may k'1l k'1s
   simp_all [Vl.mays, Kv.mays]
   try omega
  have hkeys := k'1r B n ihK ([] : List Kv) zm ms (d - 2) (fun k hk => by have := Kv.sz_mem hk; omega) (by unfold big; omega) hm (by omega) (by omega)
  rw [hR2]
  clear hR2 hR
  refine k'8 (fun i : Nat => ls.length - i) (fun i => [(1, .d (.int .i64 d)), (2, .ptr 0 0), (6, iT i)]) (fun _ => _) (fun i => i ≤ ls.length ∧ (([] : List Vl).take i).all (fun k => k.may (d - 2)) = true) 0 ⟨by omega, rfl⟩ ⟨rfl, rfl, rfl, trivial⟩ rfl 1 rfl (fun _ => rfl) (fun _ => rfl) (fun _ => rfl) ?_
  rintro i ⟨i1, i2⟩
  refine Y ?_
  by_cases hlt : i < ls.length
  ·rw [show decide ((i : Int) < ls.length) = true from decide_eq_true (by omega)]
   obtain ⟨x, hxi⟩ : ∃ x, ls[i]? = some x := ⟨_, List.getElem?_eq_getElem hlt⟩
   obtain ⟨v, hv, hvr⟩ := Vl.Rs_at hl hxi
   have hmem := List.mem_of_getElem? hv
   have hvs := Vl.sz_mem hmem
   have hc := ihV v x (d - 2) (by omega) (by unfold big; omega) hvr (by omega) (by omega)
   obtain ⟨x0, x1, x2, x3, x4, x5, x6, x7, x8, x9, rfl⟩ := hsh x (List.mem_of_getElem? hxi)
   refine Y ?_
   refine k'1 (.indexAddr (k := .i64) (n := i) (es := ls) rfl rfl rfl rfl (.inl ⟨_, rfl⟩) rfl (by omega) (by simpa using hxi) rfl (by decide)) rfl rfl ?_
   refine Y ?_
   rw [k'5 2 (by omega) (by omega) (by omega) hd2]
   refine l_cw [] (hc) rfl rfl rfl ?_
   cases h_e : v.may (d - 2)
   ·rw [show (([] : List Vl).all fun k => k.may (d - 2)) = false from by
     cases hh : (([] : List Vl).all fun k => k.may (d - 2)) with
     | false => rfl
     | true => have := List.all_eq_true.1 hh v hmem; rw [h_e] at this; simp at this]
    rw [Bool.false_and]
    exact Z
   refine Y ?_
   rw [wS i (by omega)]
   exact ⟨i + 1, by omega, ⟨by omega, k'1i i2 hv h_e⟩, ⟨rfl, rfl, rfl, trivial⟩, rfl, k'z rfl⟩
  ·rw [show decide ((i : Int) < ls.length) = false from decide_eq_false (by omega)]
   rw [List.take_of_length_le (by rw [← hla]; omega)] at i2
   rw [i2, Bool.true_and]
   refine Y ?_
   rw [k'5 2 (by omega) (by omega) (by omega) hd2]
   refine k'2 [] (hkeys) rfl rfl rfl ?_
   exact Z
 ·-- kind 4
  refine l_bw Tryz.func264 0 [] ?_
  refine xw ?_
  rw [show decide (d < 0) = false from decide_eq_false hd0]
  refine Y ?_
  refine x_cw [] (k'1n B) rfl rfl rfl ?_
  refine x_cw [] (cu) rfl rfl rfl ?_
  cases hu : (decide (0 ≤ d) && k'1a tbV u d)
  ·rw [show R = false from by rw [← hR]; unfold Vl.may k'1l k'1s; simp_all]
   exact Z
  refine Y ?_
  cases h_s : (s == ({ data := #[] } : ByteArray).data.toList)
  ·have h_s' : (s == []) = false := h_s
   refine Y ?_
   rw [show R = false from by rw [← hR]; unfold Vl.may k'1l k'1s; simp_all]
   exact Z
  have h_s' : (s == []) = true := h_s
  refine Y ?_
  cases h_b : bb
  rotate_left
  ·refine Y ?_
   rw [show R = false from by rw [← hR]; unfold Vl.may k'1l k'1s; simp_all]
   exact Z
  refine Y ?_
  cases h_l : decide ((ls.length : Int) > 0)
  rotate_left
  ·have h_l' : l.length ≠ 0 := by have := of_decide_eq_true h_l; omega
   refine Y ?_
   rw [show R = false from by rw [← hR]; unfold Vl.may k'1l k'1s; simp_all]
   exact Z
  have h_l' : l.length = 0 := by have := of_decide_eq_false h_l; omega
  refine Y ?_
  cases h_m : decide ((ms.length : Int) > 0)
  rotate_left
  ·have h_m' : m.length ≠ 0 := by have := of_decide_eq_true h_m; omega
   refine Y ?_
   rw [show R = false from by rw [← hR]; unfold Vl.may k'1l k'1s; simp_all]
   exact Z
  have h_m' : m.length = 0 := by have := of_decide_eq_false h_m; omega
  refine Y ?_
  cases h_i : (inner == ({ data := #[] } : ByteArray).data.toList)
  ·have h_i' : (inner == []) = false := h_i
   refine Y ?_
   rw [show R = false from by rw [← hR]; unfold Vl.may k'1l k'1s; simp_all]
   exact Z
  have h_i' : (inner == []) = true := h_i
  refine Y ?_
  have hl0 : l = [] := List.length_eq_zero_iff.1 (by have := of_decide_eq_false h_l; omega)
  subst hl0
  have hm0 : m = [] := List.length_eq_zero_iff.1 (by have := of_decide_eq_false h_m; omega)
  subst hm0
  have hR2 : R = ((([] : List Vl).all fun v => v.may (d - 2)) && Kv.mays ([] : List Kv) (d - 2)) := by
   rw [← hR, ← Vl.mays_all]
   unfold Vl.may k'1l k'1s
   simp_all [Vl.mays, Kv.mays]
   try omega
  have hkeys := k'1r B n ihK ([] : List Kv) zm ms (d - 2) (fun k hk => by have := Kv.sz_mem hk; omega) (by unfold big; omega) hm (by omega) (by omega)
  rw [hR2]
  clear hR2 hR
  refine k'8 (fun i : Nat => ls.length - i) (fun i => [(1, .d (.int .i64 d)), (2, .ptr 0 0), (6, iT i)]) (fun _ => _) (fun i => i ≤ ls.length ∧ (([] : List Vl).take i).all (fun k => k.may (d - 2)) = true) 0 ⟨by omega, rfl⟩ ⟨rfl, rfl, rfl, trivial⟩ rfl 1 rfl (fun _ => rfl) (fun _ => rfl) (fun _ => rfl) ?_
  rintro i ⟨i1, i2⟩
  refine Y ?_
  by_cases hlt : i < ls.length
  ·rw [show decide ((i : Int) < ls.length) = true from decide_eq_true (by omega)]
   obtain ⟨x, hxi⟩ : ∃ x, ls[i]? = some x := ⟨_, List.getElem?_eq_getElem hlt⟩
   obtain ⟨v, hv, hvr⟩ := Vl.Rs_at hl hxi
   have hmem := List.mem_of_getElem? hv
   have hvs := Vl.sz_mem hmem
   have hc := ihV v x (d - 2) (by omega) (by unfold big; omega) hvr (by omega) (by omega)
   obtain ⟨x0, x1, x2, x3, x4, x5, x6, x7, x8, x9, rfl⟩ := hsh x (List.mem_of_getElem? hxi)
   refine Y ?_
   refine k'1 (.indexAddr (k := .i64) (n := i) (es := ls) rfl rfl rfl rfl (.inl ⟨_, rfl⟩) rfl (by omega) (by simpa using hxi) rfl (by decide)) rfl rfl ?_
   refine Y ?_
   rw [k'5 2 (by omega) (by omega) (by omega) hd2]
   refine l_cw [] (hc) rfl rfl rfl ?_
   cases h_e : v.may (d - 2)
   ·rw [show (([] : List Vl).all fun k => k.may (d - 2)) = false from by
     cases hh : (([] : List Vl).all fun k => k.may (d - 2)) with
     | false => rfl
     | true => have := List.all_eq_true.1 hh v hmem; rw [h_e] at this; simp at this]
    rw [Bool.false_and]
    exact Z
   refine Y ?_
   rw [wS i (by omega)]
   exact ⟨i + 1, by omega, ⟨by omega, k'1i i2 hv h_e⟩, ⟨rfl, rfl, rfl, trivial⟩, rfl, k'z rfl⟩
  ·rw [show decide ((i : Int) < ls.length) = false from decide_eq_false (by omega)]
   rw [List.take_of_length_le (by rw [← hla]; omega)] at i2
   rw [i2, Bool.true_and]
   refine Y ?_
   rw [k'5 2 (by omega) (by omega) (by omega) hd2]
   refine k'2 [] (hkeys) rfl rfl rfl ?_
   exact Z
 ·-- kind 5
  refine l_bw Tryz.func264 0 [] ?_
  refine xw ?_
  rw [show decide (d < 0) = false from decide_eq_false hd0]
  refine Y ?_
  refine x_cw [] (k'1n B) rfl rfl rfl ?_
  refine x_cw [] (cu) rfl rfl rfl ?_
  cases hu : (decide (0 ≤ d) && k'1a tbV u d)
  ·rw [show R = false from by rw [← hR]; unfold Vl.may k'1l k'1s; simp_all]
   exact Z
  refine Y ?_
  cases h_s : (s == ({ data := #[] } : ByteArray).data.toList)
  ·have h_s' : (s == []) = false := h_s
   refine Y ?_
   rw [show R = false from by rw [← hR]; unfold Vl.may k'1l k'1s; simp_all]
   exact Z
  have h_s' : (s == []) = true := h_s
  refine Y ?_
  cases h_b : bb
  rotate_left
  ·refine Y ?_
   rw [show R = false from by rw [← hR]; unfold Vl.may k'1l k'1s; simp_all]
   exact Z
  refine Y ?_
  cases h_n : ((nn : Int) != 0)
  rotate_left
  ·refine Y ?_
   rw [show R = false from by rw [← hR]; unfold Vl.may k'1l k'1s; simp_all]
   exact Z
  refine Y ?_
  cases h_m : decide ((ms.length : Int) > 0)
  rotate_left
  ·have h_m' : m.length ≠ 0 := by have := of_decide_eq_true h_m; omega
   refine Y ?_
   rw [show R = false from by rw [← hR]; unfold Vl.may k'1l k'1s; simp_all]
   exact Z
  have h_m' : m.length = 0 := by have := of_decide_eq_false h_m; omega
  refine Y ?_
  rw [k'5 1 (by omega) (by omega) (by omega) hd2]
  refine x_cw [] (rlists_calls B) rfl rfl rfl ?_
  refine x_cw [] (ci) rfl rfl rfl ?_
  cases h_r : (decide (0 ≤ d - 1) && k'1a tbL inner (d - 1))
  ·refine Y ?_
   rw [show R = false from by rw [← hR]; unfold Vl.may k'1l k'1s; simp_all]
   exact Z
  have hd3 := unk_lt h_r
  refine Y ?_
  have hm0 : m = [] := List.length_eq_zero_iff.1 (by have := of_decide_eq_false h_m; omega)
  subst hm0
  have hR2 : R = ((l.all fun v => v.may (d - 2)) && Kv.mays ([] : List Kv) (d - 2)) := by
   rw [← hR, ← Vl.mays_all]
   unfold Vl.may k'1l k'1s
   simp_all [Vl.mays, Kv.mays]
   try omega
  have hkeys := k'1r B n ihK ([] : List Kv) zm ms (d - 2) (fun k hk => by have := Kv.sz_mem hk; omega) (by unfold big; omega) hm (by omega) (by omega)
  rw [hR2]
  clear hR2 hR
  refine k'8 (fun i : Nat => ls.length - i) (fun i => [(1, .d (.int .i64 d)), (2, .ptr 0 0), (6, iT i)]) (fun _ => _) (fun i => i ≤ ls.length ∧ (l.take i).all (fun k => k.may (d - 2)) = true) 0 ⟨by omega, rfl⟩ ⟨rfl, rfl, rfl, trivial⟩ rfl 1 rfl (fun _ => rfl) (fun _ => rfl) (fun _ => rfl) ?_
  rintro i ⟨i1, i2⟩
  refine Y ?_
  by_cases hlt : i < ls.length
  ·rw [show decide ((i : Int) < ls.length) = true from decide_eq_true (by omega)]
   obtain ⟨x, hxi⟩ : ∃ x, ls[i]? = some x := ⟨_, List.getElem?_eq_getElem hlt⟩
   obtain ⟨v, hv, hvr⟩ := Vl.Rs_at hl hxi
   have hmem := List.mem_of_getElem? hv
   have hvs := Vl.sz_mem hmem
   have hc := ihV v x (d - 2) (by omega) (by unfold big; omega) hvr (by omega) (by omega)
   obtain ⟨x0, x1, x2, x3, x4, x5, x6, x7, x8, x9, rfl⟩ := hsh x (List.mem_of_getElem? hxi)
   refine Y ?_
   refine k'1 (.indexAddr (k := .i64) (n := i) (es := ls) rfl rfl rfl rfl (.inl ⟨_, rfl⟩) rfl (by omega) (by simpa using hxi) rfl (by decide)) rfl rfl ?_
   refine Y ?_
   rw [k'5 2 (by omega) (by omega) (by omega) hd2]
   refine l_cw [] (hc) rfl rfl rfl ?_
   cases h_e : v.may (d - 2)
   ·rw [show (l.all fun k => k.may (d - 2)) = false from by
     cases hh : (l.all fun k => k.may (d - 2)) with
     | false => rfl
     | true => have := List.all_eq_true.1 hh v hmem; rw [h_e] at this; simp at this]
    rw [Bool.false_and]
    exact Z
   refine Y ?_
   rw [wS i (by omega)]
   exact ⟨i + 1, by omega, ⟨by omega, k'1i i2 hv h_e⟩, ⟨rfl, rfl, rfl, trivial⟩, rfl, k'z rfl⟩
  ·rw [show decide ((i : Int) < ls.length) = false from decide_eq_false (by omega)]
   rw [List.take_of_length_le (by rw [← hla]; omega)] at i2
   rw [i2, Bool.true_and]
   refine Y ?_
   rw [k'5 2 (by omega) (by omega) (by omega) hd2]
   refine k'2 [] (hkeys) rfl rfl rfl ?_
   exact Z
 ·-- kind 6
  refine l_bw Tryz.func264 0 [] ?_
  refine xw ?_
  rw [show decide (d < 0) = false from decide_eq_false hd0]
  refine Y ?_
  refine x_cw [] (k'1n B) rfl rfl rfl ?_
  refine x_cw [] (cu) rfl rfl rfl ?_
  cases hu : (decide (0 ≤ d) && k'1a tbV u d)
  ·rw [show R = false from by rw [← hR]; unfold Vl.may k'1l k'1s; simp_all]
   exact Z
  refine Y ?_
  cases h_s : (s == ({ data := #[] } : ByteArray).data.toList)
  ·have h_s' : (s == []) = false := h_s
   refine Y ?_
   rw [show R = false from by rw [← hR]; unfold Vl.may k'1l k'1s; simp_all]
   exact Z
  have h_s' : (s == []) = true := h_s
  refine Y ?_
  cases h_b : bb
  rotate_left
  ·refine Y ?_
   rw [show R = false from by rw [← hR]; unfold Vl.may k'1l k'1s; simp_all]
   exact Z
  refine Y ?_
  cases h_n : ((nn : Int) != 0)
  rotate_left
  ·refine Y ?_
   rw [show R = false from by rw [← hR]; unfold Vl.may k'1l k'1s; simp_all]
   exact Z
  refine Y ?_
  cases h_l : decide ((ls.length : Int) > 0)
  rotate_left
  ·have h_l' : l.length ≠ 0 := by have := of_decide_eq_true h_l; omega
   refine Y ?_
   rw [show R = false from by rw [← hR]; unfold Vl.may k'1l k'1s; simp_all]
   exact Z
  have h_l' : l.length = 0 := by have := of_decide_eq_false h_l; omega
  refine Y ?_
  rw [k'5 1 (by omega) (by omega) (by omega) hd2]
  refine x_cw [] (rlists_calls B) rfl rfl rfl ?_
  refine x_cw [] (ci) rfl rfl rfl ?_
  cases h_r : (decide (0 ≤ d - 1) && k'1a tbL inner (d - 1))
  ·refine Y ?_
   rw [show R = false from by rw [← hR]; unfold Vl.may k'1l k'1s; simp_all]
   exact Z
  have hd3 := unk_lt h_r
  refine Y ?_
  have hl0 : l = [] := List.length_eq_zero_iff.1 (by have := of_decide_eq_false h_l; omega)
  subst hl0
  have hR2 : R = ((([] : List Vl).all fun v => v.may (d - 2)) && Kv.mays m (d - 2)) := by
   rw [← hR, ← Vl.mays_all]
   unfold Vl.may k'1l k'1s
   simp_all [Vl.mays, Kv.mays]
   try omega
  have hkeys := k'1r B n ihK m zm ms (d - 2) (fun k hk => by have := Kv.sz_mem hk; omega) (by unfold big; omega) hm (by omega) (by omega)
  rw [hR2]
  clear hR2 hR
  refine k'8 (fun i : Nat => ls.length - i) (fun i => [(1, .d (.int .i64 d)), (2, .ptr 0 0), (6, iT i)]) (fun _ => _) (fun i => i ≤ ls.length ∧ (([] : List Vl).take i).all (fun k => k.may (d - 2)) = true) 0 ⟨by omega, rfl⟩ ⟨rfl, rfl, rfl, trivial⟩ rfl 1 rfl (fun _ => rfl) (fun _ => rfl) (fun _ => rfl) ?_
  rintro i ⟨i1, i2⟩
  refine Y ?_
  by_cases hlt : i < ls.length
  ·rw [show decide ((i : Int) < ls.length) = true from decide_eq_true (by omega)]
   obtain ⟨x, hxi⟩ : ∃ x, ls[i]? = some x := ⟨_, List.getElem?_eq_getElem hlt⟩
   obtain ⟨v, hv, hvr⟩ := Vl.Rs_at hl hxi
   have hmem := List.mem_of_getElem? hv
   have hvs := Vl.sz_mem hmem
   have hc := ihV v x (d - 2) (by omega) (by unfold big; omega) hvr (by omega) (by omega)
   obtain ⟨x0, x1, x2, x3, x4, x5, x6, x7, x8, x9, rfl⟩ := hsh x (List.mem_of_getElem? hxi)
   refine Y ?_
   refine k'1 (.indexAddr (k := .i64) (n := i) (es := ls) rfl rfl rfl rfl (.inl ⟨_, rfl⟩) rfl (by omega) (by simpa using hxi) rfl (by decide)) rfl rfl ?_
   refine Y ?_
   rw [k'5 2 (by omega) (by omega) (by omega) hd2]
   refine l_cw [] (hc) rfl rfl rfl ?_
   cases h_e : v.may (d - 2)
   ·rw [show (([] : List Vl).all fun k => k.may (d - 2)) = false from by
     cases hh : (([] : List Vl).all fun k => k.may (d - 2)) with
     | false => rfl
     | true => have := List.all_eq_true.1 hh v hmem; rw [h_e] at this; simp at this]
    rw [Bool.false_and]
    exact Z
   refine Y ?_
   rw [wS i (by omega)]
   exact ⟨i + 1, by omega, ⟨by omega, k'1i i2 hv h_e⟩, ⟨rfl, rfl, rfl, trivial⟩, rfl, k'z rfl⟩
  ·rw [show decide ((i : Int) < ls.length) = false from decide_eq_false (by omega)]
   rw [List.take_of_length_le (by rw [← hla]; omega)] at i2
   rw [i2, Bool.true_and]
   refine Y ?_
   rw [k'5 2 (by omega) (by omega) (by omega) hd2]
   refine k'2 [] (hkeys) rfl rfl rfl ?_
   exact Z
 ·-- kind 7
  refine l_bw Tryz.func264 0 [] ?_
  refine xw ?_
  rw [show decide (d < 0) = false from decide_eq_false hd0]
  refine Y ?_
  refine x_cw [] (k'1n B) rfl rfl rfl ?_
  refine x_cw [] (cu) rfl rfl rfl ?_
  cases hu : (decide (0 ≤ d) && k'1a tbV u d)
  ·rw [show R = false from by rw [← hR]; unfold Vl.may k'1l k'1s; simp_all]
   exact Z
  refine Y ?_
  cases h_b : bb
  rotate_left
  ·refine Y ?_
   rw [show R = false from by rw [← hR]; unfold Vl.may k'1l k'1s; simp_all]
   exact Z
  refine Y ?_
  cases h_n : ((nn : Int) != 0)
  rotate_left
  ·refine Y ?_
   rw [show R = false from by rw [← hR]; unfold Vl.may k'1l k'1s; simp_all]
   exact Z
  refine Y ?_
  cases h_l : decide ((ls.length : Int) > 0)
  rotate_left
  ·have h_l' : l.length ≠ 0 := by have := of_decide_eq_true h_l; omega
   refine Y ?_
   rw [show R = false from by rw [← hR]; unfold Vl.may k'1l k'1s; simp_all]
   exact Z
  have h_l' : l.length = 0 := by have := of_decide_eq_false h_l; omega
  refine Y ?_
  cases h_m : decide ((ms.length : Int) > 0)
  rotate_left
  ·have h_m' : m.length ≠ 0 := by have := of_decide_eq_true h_m; omega
   refine Y ?_
   rw [show R = false from by rw [← hR]; unfold Vl.may k'1l k'1s; simp_all]
   exact Z
  have h_m' : m.length = 0 := by have := of_decide_eq_false h_m; omega
  refine Y ?_
  cases h_i : (inner == ({ data := #[] } : ByteArray).data.toList)
  ·have h_i' : (inner == []) = false := h_i
   refine Y ?_
   rw [show R = false from by rw [← hR]; unfold Vl.may k'1l k'1s; simp_all]
   exact Z
  have h_i' : (inner == []) = true := h_i
  refine Y ?_
  have hl0 : l = [] := List.length_eq_zero_iff.1 (by have := of_decide_eq_false h_l; omega)
  subst hl0
  have hm0 : m = [] := List.length_eq_zero_iff.1 (by have := of_decide_eq_false h_m; omega)
  subst hm0
  have hR2 : R = ((([] : List Vl).all fun v => v.may (d - 2)) && Kv.mays ([] : List Kv) (d - 2)) := by
   rw [← hR, ← Vl.mays_all]
   unfold Vl.may k'1l k'1s
   simp_all [Vl.mays, Kv.mays]
   try omega
  have hkeys := k'1r B n ihK ([] : List Kv) zm ms (d - 2) (fun k hk => by have := Kv.sz_mem hk; omega) (by unfold big; omega) hm (by omega) (by omega)
  rw [hR2]
  clear hR2 hR
  refine k'8 (fun i : Nat => ls.length - i) (fun i => [(1, .d (.int .i64 d)), (2, .ptr 0 0), (6, iT i)]) (fun _ => _) (fun i => i ≤ ls.length ∧ (([] : List Vl).take i).all (fun k => k.may (d - 2)) = true) 0 ⟨by omega, rfl⟩ ⟨rfl, rfl, rfl, trivial⟩ rfl 1 rfl (fun _ => rfl) (fun _ => rfl) (fun _ => rfl) ?_
  rintro i ⟨i1, i2⟩
  refine Y ?_
  by_cases hlt : i < ls.length
  ·rw [show decide ((i : Int) < ls.length) = true from decide_eq_true (by omega)]
   obtain ⟨x, hxi⟩ : ∃ x, ls[i]? = some x := ⟨_, List.getElem?_eq_getElem hlt⟩
   obtain ⟨v, hv, hvr⟩ := Vl.Rs_at hl hxi
   have hmem := List.mem_of_getElem? hv
   have hvs := Vl.sz_mem hmem
   have hc := ihV v x (d - 2) (by omega) (by unfold big; omega) hvr (by omega) (by omega)
   obtain ⟨x0, x1, x2, x3, x4, x5, x6, x7, x8, x9, rfl⟩ := hsh x (List.mem_of_getElem? hxi)
   refine Y ?_
   refine k'1 (.indexAddr (k := .i64) (n := i) (es := ls) rfl rfl rfl rfl (.inl ⟨_, rfl⟩) rfl (by omega) (by simpa using hxi) rfl (by decide)) rfl rfl ?_
   refine Y ?_
   rw [k'5 2 (by omega) (by omega) (by omega) hd2]
   refine l_cw [] (hc) rfl rfl rfl ?_
   cases h_e : v.may (d - 2)
   ·rw [show (([] : List Vl).all fun k => k.may (d - 2)) = false from by
     cases hh : (([] : List Vl).all fun k => k.may (d - 2)) with
     | false => rfl
     | true => have := List.all_eq_true.1 hh v hmem; rw [h_e] at this; simp at this]
    rw [Bool.false_and]
    exact Z
   refine Y ?_
   rw [wS i (by omega)]
   exact ⟨i + 1, by omega, ⟨by omega, k'1i i2 hv h_e⟩, ⟨rfl, rfl, rfl, trivial⟩, rfl, k'z rfl⟩
  ·rw [show decide ((i : Int) < ls.length) = false from decide_eq_false (by omega)]
   rw [List.take_of_length_le (by rw [← hla]; omega)] at i2
   rw [i2, Bool.true_and]
   refine Y ?_
   rw [k'5 2 (by omega) (by omega) (by omega) hd2]
   refine k'2 [] (hkeys) rfl rfl rfl ?_
   exact Z
theorem isNo_may (kind : Int) (s : List UInt8) (bb : Bool) (nn : Nat) (l : List Vl) (m : List Kv) (inner u : List UInt8) : ((Vl.mk kind s bb nn l m inner u).may 0 && (kind == 0 && u == [])) = (Vl.mk kind s bb nn l m inner u).isNo := by
 unfold Vl.isNo
 by_cases hk : kind = 0
 ·subst hk
  cases u with
  | nil =>
   have hr : k'1a tbV [] 0 = true := rfl
   unfold Vl.may k'1l k'1s
   rw [hr, Bool.eq_iff_iff]
   simp
   constructor
   ·rintro ⟨⟨⟨a, b⟩, c⟩, ⟨d, e⟩, f⟩; exact ⟨⟨⟨⟨⟨a, c⟩, b⟩, f⟩, d⟩, e⟩
   ·rintro ⟨⟨⟨⟨⟨a, c⟩, b⟩, f⟩, d⟩, e⟩; exact ⟨⟨⟨a, b⟩, c⟩, ⟨d, e⟩, f⟩
  | cons c u => simp
 ·have a : (kind == 0) = false := by
   cases h : (kind == 0) with
   | false => rfl
   | true => exact absurd (eq_of_beq h) hk
  rw [Bool.eq_iff_iff]
  simp only [Bool.and_eq_true, beq_iff_eq]
  constructor
  ·rintro ⟨-, h, -⟩; exact absurd h hk
  ·rintro ⟨⟨⟨⟨⟨⟨⟨h, -⟩, -⟩, -⟩, -⟩, -⟩, -⟩, -⟩; exact absurd h hk
theorem rmayK (n : Nat) (ihV : MVat B n) : MKat B (n + 1) := by
 rintro ⟨key, has, ⟨kind, s, bb, nn, l, m, inner, vu⟩, u⟩ xa d hsz hbig ⟨zl, ls, zm, ms, rfl, hl, hm⟩ hd1 hd2
 have hvR : (Vl.mk kind s bb nn l m inner vu).R (.agg [.int .i64 kind, .str s, .bool bb, .int .u64 nn, .sl zl ls, .sl zm ms, .str inner, .str vu]) := ⟨zl, ls, zm, ms, rfl, hl, hm⟩
 unfold Kv.sz at hsz hbig
 unfold big at hbig
 have ct := k'17 B key (by unfold big; omega)
 have cu := unkK_calls B u d (by unfold big; omega) (by omega) hd2
 have c0 := ihV (.mk kind s bb nn l m inner vu) _ 0 (by omega) (by unfold big; omega) hvR (by omega) (by omega)
 have h0 := isNo_may kind s bb nn l m inner vu
 have hv1 : 0 ≤ d → k'0 (cx B) 264 [.d (.agg [.int .i64 kind, .str s, .bool bb, .int .u64 nn, .sl zl ls, .sl zm ms, .str inner, .str vu]), .d (.int .i64 (d - 1))] [] (.d (.bool ((Vl.mk kind s bb nn l m inner vu).may (d - 1)))) [] := fun h => ihV (.mk kind s bb nn l m inner vu) _ (d - 1) (by omega) (by unfold big; omega) hvR (by omega) (by omega)
 generalize hR : (Kv.mk key has (.mk kind s bb nn l m inner vu) u).may d = R
 generalize hV : (Vl.mk kind s bb nn l m inner vu) = V at *
 unfold Kv.may at hR
 refine l_bw Tryz.func199 0 [] ?_
 refine xw ?_
 cases h_d : decide (d < 0)
 rotate_left
 ·have : ¬ (0 ≤ d) := by have := of_decide_eq_true h_d; omega
  rw [show R = false from by rw [← hR, decide_eq_false this]; simp]
  exact Z
 have hd0 : 0 ≤ d := by have := of_decide_eq_false h_d; omega
 rw [decide_eq_true hd0, Bool.true_and] at hR cu
 have c1 := hv1 hd0
 refine Y ?_
 refine x_cw [] (ct) rfl rfl rfl ?_
 cases h_t : txt key
 ·rw [show R = false from by rw [← hR, h_t]; simp]
  exact Z
 refine Y ?_
 refine x_cw [] (pairs_calls B) rfl rfl rfl ?_
 refine x_cw [] (cu) rfl rfl rfl ?_
 cases h_u : k'1a tbK u d
 ·rw [show R = false from by rw [← hR, h_u]; simp]
  exact Z
 rw [h_t, h_u] at hR
 cases has
 rotate_left
 ·rw [show R = V.may (d - 1) from by rw [← hR]; simp]
  refine Y ?_
  rw [k'5 1 (by omega) (by omega) (by omega) hd2]
  refine k'2 [] (c1) rfl rfl rfl ?_
  exact Z
 rw [show R = (V.may 0 && (kind == 0 && vu == [])) from by rw [← hR, h0]; simp]
 refine Y ?_
 refine l_cw [] (c0) rfl rfl rfl ?_
 cases h_a : V.may 0
 ·exact Z
 refine Y ?_
 cases h_k : (kind == 0)
 ·exact Z
 exact Z
theorem rmay (n : Nat) : MVat B n ∧ MKat B n := by
 induction n with
 | zero => exact ⟨fun _ _ _ h => by omega, fun _ _ _ h => by omega⟩
 | succ n ih => exact ⟨rmayV B n ih.1 ih.2, rmayK B n ih.1⟩
theorem k'15 (l : List Kv) (z : Bool) (xs : List D) (d : Int) (hb : Kv.szs l < big) (hR : Kv.Rs l xs) (hd1 : -9223372036854775000 ≤ d) (hd2 : d < 9223372036854775808) : k'0 (cx B) 148 [.d (.sl z xs), .d (.int .i64 d)] [] (.d (.bool (l.all fun k => k.may d))) [] := by
 rw [← Kv.mays_all]
 exact k'1r B (Kv.szs l + 1) (rmay B _).2 l z xs d (fun k hk => by have := Kv.sz_mem hk; omega) hb hR hd1 hd2
