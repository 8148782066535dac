/- Hist: the reference tells if they may be, and their bytes. -/
import Derived.Test.YtnaojdjhjkendaaGreatDoorWF
import Derived.Test.YtnaojdjhjkendaaGreatDoorHP
import Derived.Test.YtnaojdjhjkendaaGreatDoorHR
import Derived.Test.YtnaojdjhjkendaaGreatDoorPAB
import Derived.Test.YtnaojdjhjkendaaGreatDoorEL
set_option linter.unusedSimpArgs false
set_option linter.unusedVariables false
set_option maxRecDepth 100000
namespace Go.Proofs.YtnaojdjhjkendaaGreatDoor
open Go Go.Abs
variable (B : Fr)
section
def Bk.mar (b : Bk) : List UInt8 := marB b.off b.cs b.u
def Bk.wf (b : Bk) : Prop := (-2147483648 ≤ b.off ∧ b.off < 2147483648) ∧ ∀ n ∈ b.cs, n < 2 ^ 64
def Bk.sz (b : Bk) : Nat := 120 + 10 * b.cs.length + b.u.length
def Bk.may (b : Bk) (d : Int) : Bool := mayB b.u d
def Bk.isNo (b : Bk) : Bool := b.off == 0 && b.u == [] && b.cs == []
def Bk.eq (a b : Bk) : Bool := a.off == b.off && a.u == b.u && a.cs == b.cs
theorem Bk.mar_len (b : Bk) : b.mar.length + 20 ≤ b.sz := by
 have := vrV_len 1 (zig32 b.off); have := pkV_len 2 b.cs
 unfold Bk.mar marB Bk.sz
 simp only [List.length_append]
 omega
theorem Bk_told : Told okB Bk.may Bk.wf Bk.sz 120 := fun d s b h => by
 obtain ⟨h1, h2⟩ := okB_len h
 exact ⟨okB_may h, okB_rng h, by unfold Bk.sz; omega⟩
def sdV (n : Nat) (h : Bool) (b : Bk) : List UInt8 := if h then paV n b.mar else []
def sdF (n : Nat) (h : Bool) (b : Bk) : List Fld := if h then [paR n b.mar] else []
def maySd (h : Bool) (b : Bk) (d : Int) : Bool := if h then b.may d else b.isNo
def sdO (h : Bool) (b : Bk) (d : Int) : Option (Bool × Bk) := if h then (match okB b.mar d with | none => none | some x => some (true, x)) else some (false, noBk)
theorem sdV_len (n : Nat) (h : Bool) (b : Bk) : (sdV n h b).length ≤ b.sz := by
 unfold sdV
 have := b.mar_len
 split
 ·have := k'3t n b.mar; omega
 ·simp
section
variable (n m : Nat) (h : Bool) (b : Bk)
theorem sel_sd : sel m (sdF n h b) = if n = m then sdF n h b else [] := sel_of (by unfold sdF; split <;> simp [paR]) m
theorem in_sd {tb : Nat → Nat → Bool} (ht : tb n 2 = true) : inT tb (sdF n h b) = true := by unfold sdF inT; split <;> simp [isT, paR, ht]
theorem all_sd (h1 : 1 ≤ n) (h2 : n ≤ 536870911) (d : Int) (hb : b.sz < big) : all (sdV n h b) d = .ok (sdF n h b) := by
 unfold sdV sdF
 have := b.mar_len
 unfold big at hb
 split
 ·exact all_pa h1 h2 d (by omega)
 ·exact all_nil d
end
theorem part_sd {n : Nat} {h : Bool} {b : Bk} {l : List Fld} (d : Int) (hs : sel n l = sdF n h b) : partO (fun s => okB s d) noBk n l = sdO h b d := by
 unfold partO sdO
 rw [anyL_sel, k'2m, hs]
 unfold sdF
 cases h with
 | false => rfl
 | true =>
  simp only [paR, if_true, List.isEmpty_cons, Bool.not_false, List.flatMap_cons, List.flatMap_nil, List.append_nil]
  cases okB b.mar d <;> rfl
theorem sd_told {n : Nat} {l : List Fld} {p : Bool × Bk} {d : Int} (hl : ∀ x ∈ l, FOk x) (h : partO (fun s => okB s d) noBk n l = some p) : maySd p.1 p.2 d = true ∧ p.2.wf ∧ p.2.sz ≤ 120 + 120 * wt l := by
 unfold partO at h
 split at h
 ·split at h
  ·simp at h
  rename_i x hx
  injection h with h; subst h
  obtain ⟨i1, i2, i3⟩ := Bk_told d _ x hx
  have := k'3a hl n
  exact ⟨i1, i2, by show x.sz ≤ _; omega⟩
 ·injection h with h; subst h
  exact ⟨rfl, ⟨by show -2147483648 ≤ (0 : Int); omega, by show (0 : Int) < 2147483648; omega⟩ |> fun a => ⟨a, by show ∀ n ∈ ([] : List Nat), n < 2 ^ 64; simp⟩, by show 120 + 10 * 0 + 0 ≤ _; omega⟩
theorem Bk.eq_self (b : Bk) : b.eq b = true := by unfold Bk.eq; simp
theorem last_zg {n : Nat} {o : Int} {l : List Fld} (h1 : -2147483648 ≤ o) (h2 : o < 2147483648) (h : sel n l = vrF n (zig32 o)) : zag32 (k'a l n).n = o := by
 rw [last_vr h]; exact zag_zig h1 h2
theorem UB_rd (hB : BOk B) (s : List UInt8) (d : Int) (hl : s.length < big) (hd1 : -9223372036854775808 ≤ d) (hd2 : d < 9223372036854775808) : RdAt B 179 [] Bk.d id (okB s d) s d := by
 have h1 := k'3y B hB s d hl hd1 hd2
 unfold RdAt
 cases ho : okB s d with
 | some b =>
  rw [okB_some ho] at h1; exact h1
 | none =>
  obtain ⟨e, he⟩ := okB_none ho
  have hin := ubB_err (s := s) (d := d) (e := e) (by rw [he])
  rw [he] at h1
  exact ⟨noBk, e, hin, h1⟩
theorem refBk_calls (z w : Bool) (a b : Bk) (hl : a.cs.length < 9223372036854775807) : k'5 (cx B) 109 [.d (bkZ z a.off a.cs a.u), .d (bkZ w b.off b.cs b.u)] [] (.d (.bool (a.eq b))) [] := by
 have h := refZ B z w a.off a.cs a.u b.off b.cs b.u hl
 rw [show a.eq b = (a.off == b.off && a.cs == b.cs && a.u == b.u) by unfold Bk.eq; ac_rfl]
 exact h
end
section
structure Eh where
 attrs : List Kv
 start : Nat
 time : Nat
 count : Nat
 sumH : Bool
 sum : Nat
 minH : Bool
 min : Nat
 maxH : Bool
 max : Nat
 scale : Int
 zero : Nat
 posH : Bool
 pos : Bk
 negH : Bool
 neg : Bk
 exs : List Em
 flags : Nat
 thr : Nat
 u : List UInt8
def noEh : Eh := ⟨[], 0, 0, 0, false, 0, false, 0, false, 0, 0, 0, false, noBk, false, noBk, [], 0, 0, []⟩
def Eh.hb (x : Eh) : List UInt8 := psV 1 (Kv.mars x.attrs) ++ fxV 2 x.start ++ fxV 3 x.time ++ fxV 4 x.count ++ opV 5 x.sumH x.sum ++ vrV 6 (zig32 x.scale) ++ fxV 7 x.zero ++ sdV 8 x.posH x.pos ++ sdV 9 x.negH x.neg ++ vrV 10 x.flags ++ psV 11 (x.exs.map Em.mar) ++ opV 12 x.minH x.min ++ opV 13 x.maxH x.max ++ fxV 14 x.thr
def Eh.hF (x : Eh) : List Fld := psF 1 (Kv.mars x.attrs) ++ fxF 2 x.start ++ fxF 3 x.time ++ fxF 4 x.count ++ opF 5 x.sumH x.sum ++ vrF 6 (zig32 x.scale) ++ fxF 7 x.zero ++ sdF 8 x.posH x.pos ++ sdF 9 x.negH x.neg ++ vrF 10 x.flags ++ psF 11 (x.exs.map Em.mar) ++ opF 12 x.minH x.min ++ opF 13 x.maxH x.max ++ fxF 14 x.thr
def Eh.mar (x : Eh) : List UInt8 := x.hb ++ x.u
def tbQ (n k : Nat) : Bool := bif [2, 3, 4, 5, 7, 12, 13, 14].contains n then k == 1 else bif [1, 8, 9, 11].contains n then k == 2 else bif [6, 10].contains n then k == 0 else false
theorem tbQ_calls (n k : Nat) : k'5 (cx B) 176 [iT n, iT k] [] (.d (.bool (tbQ n k))) [] := by
 refine l_bw Tryz.func176 0 [] ?_
 cases h0 : ((n : Int) == 2) with
 | true =>
  have e : n = 2 := by have := eq_of_beq h0; omega
  subst e
  rw [show tbQ 2 k = ((k : Int) == 1) from (ibeq k 1).symm]
  exact O
 | false =>
 have eh0 : n ≠ 2 := by have := ne_of_beq_false h0; omega
 refine Z ?_
 cases h1 : ((n : Int) == 3) with
 | true =>
  have e : n = 3 := by have := eq_of_beq h1; omega
  subst e
  rw [show tbQ 3 k = ((k : Int) == 1) from (ibeq k 1).symm]
  exact O
 | false =>
 have eh1 : n ≠ 3 := by have := ne_of_beq_false h1; omega
 refine Z ?_
 cases h2 : ((n : Int) == 4) with
 | true =>
  have e : n = 4 := by have := eq_of_beq h2; omega
  subst e
  rw [show tbQ 4 k = ((k : Int) == 1) from (ibeq k 1).symm]
  exact O
 | false =>
 have eh2 : n ≠ 4 := by have := ne_of_beq_false h2; omega
 refine Z ?_
 cases h3 : ((n : Int) == 5) with
 | true =>
  have e : n = 5 := by have := eq_of_beq h3; omega
  subst e
  rw [show tbQ 5 k = ((k : Int) == 1) from (ibeq k 1).symm]
  exact O
 | false =>
 have eh3 : n ≠ 5 := by have := ne_of_beq_false h3; omega
 refine Z ?_
 cases h4 : ((n : Int) == 7) with
 | true =>
  have e : n = 7 := by have := eq_of_beq h4; omega
  subst e
  rw [show tbQ 7 k = ((k : Int) == 1) from (ibeq k 1).symm]
  exact O
 | false =>
 have eh4 : n ≠ 7 := by have := ne_of_beq_false h4; omega
 refine Z ?_
 cases h5 : ((n : Int) == 12) with
 | true =>
  have e : n = 12 := by have := eq_of_beq h5; omega
  subst e
  rw [show tbQ 12 k = ((k : Int) == 1) from (ibeq k 1).symm]
  exact O
 | false =>
 have eh5 : n ≠ 12 := by have := ne_of_beq_false h5; omega
 refine Z ?_
 cases h6 : ((n : Int) == 13) with
 | true =>
  have e : n = 13 := by have := eq_of_beq h6; omega
  subst e
  rw [show tbQ 13 k = ((k : Int) == 1) from (ibeq k 1).symm]
  exact O
 | false =>
 have eh6 : n ≠ 13 := by have := ne_of_beq_false h6; omega
 refine Z ?_
 cases h7 : ((n : Int) == 14) with
 | true =>
  have e : n = 14 := by have := eq_of_beq h7; omega
  subst e
  rw [show tbQ 14 k = ((k : Int) == 1) from (ibeq k 1).symm]
  exact O
 | false =>
 have eh7 : n ≠ 14 := by have := ne_of_beq_false h7; omega
 refine Z ?_
 cases h8 : ((n : Int) == 1) with
 | true =>
  have e : n = 1 := by have := eq_of_beq h8; omega
  subst e
  rw [show tbQ 1 k = ((k : Int) == 2) from (ibeq k 2).symm]
  exact O
 | false =>
 have eh8 : n ≠ 1 := by have := ne_of_beq_false h8; omega
 refine Z ?_
 cases h9 : ((n : Int) == 8) with
 | true =>
  have e : n = 8 := by have := eq_of_beq h9; omega
  subst e
  rw [show tbQ 8 k = ((k : Int) == 2) from (ibeq k 2).symm]
  exact O
 | false =>
 have eh9 : n ≠ 8 := by have := ne_of_beq_false h9; omega
 refine Z ?_
 cases h10 : ((n : Int) == 9) with
 | true =>
  have e : n = 9 := by have := eq_of_beq h10; omega
  subst e
  rw [show tbQ 9 k = ((k : Int) == 2) from (ibeq k 2).symm]
  exact O
 | false =>
 have eh10 : n ≠ 9 := by have := ne_of_beq_false h10; omega
 refine Z ?_
 cases h11 : ((n : Int) == 11) with
 | true =>
  have e : n = 11 := by have := eq_of_beq h11; omega
  subst e
  rw [show tbQ 11 k = ((k : Int) == 2) from (ibeq k 2).symm]
  exact O
 | false =>
 have eh11 : n ≠ 11 := by have := ne_of_beq_false h11; omega
 refine Z ?_
 cases h12 : ((n : Int) == 6) with
 | true =>
  have e : n = 6 := by have := eq_of_beq h12; omega
  subst e
  rw [show tbQ 6 k = ((k : Int) == 0) from (ibeq k 0).symm]
  exact O
 | false =>
 have eh12 : n ≠ 6 := by have := ne_of_beq_false h12; omega
 refine Z ?_
 cases h13 : ((n : Int) == 10) with
 | true =>
  have e : n = 10 := by have := eq_of_beq h13; omega
  subst e
  rw [show tbQ 10 k = ((k : Int) == 0) from (ibeq k 0).symm]
  exact O
 | false =>
 have eh13 : n ≠ 10 := by have := ne_of_beq_false h13; omega
 refine Z ?_
 rw [show tbQ n k = false from by unfold tbQ; simp [eh0, eh1, eh2, eh3, eh4, eh5, eh6, eh7, eh8, eh9, eh10, eh11, eh12, eh13]]
 exact k'j rfl
def Eh.wf (x : Eh) : Prop := (∀ k ∈ x.attrs, k.wf) ∧ x.start < 2 ^ 64 ∧ x.time < 2 ^ 64 ∧ x.count < 2 ^ 64 ∧ x.sum < 2 ^ 64 ∧ x.min < 2 ^ 64 ∧ x.max < 2 ^ 64 ∧ (-2147483648 ≤ x.scale ∧ x.scale < 2147483648) ∧ x.zero < 2 ^ 64 ∧ x.pos.wf ∧ x.neg.wf ∧ (∀ k ∈ x.exs, k.wf) ∧ x.flags < 4294967296 ∧ x.thr < 2 ^ 64
def Eh.sz (x : Eh) : Nat := 300 + Kv.szs x.attrs + x.pos.sz + x.neg.sz + (x.exs.map Em.sz).sum + x.u.length
def Eh.may (x : Eh) (d : Int) : Bool := decide (0 ≤ d) && (k'48 x.sumH x.sum && k'48 x.minH x.min && k'48 x.maxH x.max) && maySd x.posH x.pos (d - 1) && maySd x.negH x.neg (d - 1) && (x.exs.all fun k => k.may (d - 1)) && (x.attrs.all fun k => k.may (d - 1)) && restB tbQ x.u d
theorem Eh.hb_len (x : Eh) : x.mar.length + 20 ≤ x.sz := by
 have q0 := Kv.marsP_len 1 x.attrs
 have q1 := k'26 2 x.start
 have q2 := k'26 3 x.time
 have q3 := k'26 4 x.count
 have q4 := k'4b 5 x.sumH x.sum
 have q5 := vrV_len 6 (zig32 x.scale)
 have q6 := k'26 7 x.zero
 have q7 := sdV_len 8 x.posH x.pos
 have q8 := sdV_len 9 x.negH x.neg
 have q9 := vrV_len 10 x.flags
 have q10 := psV_sum 11 x.exs fun y _ => Em.mar_len y
 have q11 := k'4b 12 x.minH x.min
 have q12 := k'4b 13 x.maxH x.max
 have q13 := k'26 14 x.thr
 unfold Eh.mar Eh.hb Eh.sz
 simp only [List.length_append]
 omega
theorem Eh.mar_len (x : Eh) : x.mar.length + 20 ≤ x.sz := Eh.hb_len x
theorem Eh.mars_lt {l : List Eh} (h : (l.map Eh.sz).sum < big) : ∀ s ∈ l.map Eh.mar, s.length < 2 ^ 64 := fun s hs => by
 obtain ⟨k, hk, rfl⟩ := List.mem_map.1 hs
 have h1 := Eh.mar_len k; have h2 := k'3b (sz := Eh.sz) hk
 unfold big at h; omega
theorem Eh.all {x : Eh} (h1 : x.sz < big) (h2 : x.wf) (d : Int) : all x.hb d = .ok x.hF := by
 unfold Eh.sz big at h1
 obtain ⟨w0, w1, w2, w3, w4, w5, w6, w7, w8, w9, w10, w11, w12, w13⟩ := h2
 exact k'9 (k'9 (k'9 (k'9 (k'9 (k'9 (k'9 (k'9 (k'9 (k'9 (k'9 (k'9 (k'9 (k'4k (by omega) (by omega) d (Kv.mars_lt (by unfold big; omega))) (k'3x (by omega) (by omega) d (by omega))) (k'3x (by omega) (by omega) d (by omega))) (k'3x (by omega) (by omega) d (by omega))) (all_op (by omega) (by omega) d _ (by omega))) (all_vr (by omega) (by omega) d (zig32_lt _ (by omega) (by omega)))) (k'3x (by omega) (by omega) d (by omega))) (all_sd 8 x.posH x.pos (by omega) (by omega) d (by unfold big; omega))) (all_sd 9 x.negH x.neg (by omega) (by omega) d (by unfold big; omega))) (all_vr (by omega) (by omega) d (by omega))) (k'4k (by omega) (by omega) d (Em.mars_lt (by unfold big; omega)))) (all_op (by omega) (by omega) d _ (by omega))) (all_op (by omega) (by omega) d _ (by omega))) (k'3x (by omega) (by omega) d (by omega))
theorem Eh.inn (x : Eh) : inT tbQ x.hF = true := by
 unfold Eh.hF
 simp only [inT_app, Bool.and_eq_true]
 exact ⟨⟨⟨⟨⟨⟨⟨⟨⟨⟨⟨⟨⟨in_ps 1 _ rfl, in_fx 2 x.start rfl⟩, in_fx 3 x.time rfl⟩, in_fx 4 x.count rfl⟩, in_op 5 x.sum _ rfl⟩, in_vr 6 (zig32 x.scale) rfl⟩, in_fx 7 x.zero rfl⟩, in_sd 8 x.posH x.pos rfl⟩, in_sd 9 x.negH x.neg rfl⟩, in_vr 10 x.flags rfl⟩, in_ps 11 _ rfl⟩, in_op 12 x.min _ rfl⟩, in_op 13 x.max _ rfl⟩, in_fx 14 x.thr rfl⟩
def tellEh (d : Int) (l : List Fld) : Option (List UInt8 → Eh) :=
 match k'7 (fun s => okK s (d - 1)) 1 l with
 | none => none
 | some attrs =>
 match partO (fun s => okB s (d - 1)) noBk 8 l with
 | none => none
 | some pos =>
 match partO (fun s => okB s (d - 1)) noBk 9 l with
 | none => none
 | some neg =>
 match k'7 (fun s => okEm s (d - 1)) 11 l with
 | none => none
 | some exs =>
 some fun u => ⟨attrs, (k'a l 2).n, (k'a l 3).n, (k'a l 4).n, (hasL l 5), (k'a l 5).n, (hasL l 12), (k'a l 12).n, (hasL l 13), (k'a l 13).n, zag32 (k'a l 6).n, (k'a l 7).n, pos.1, pos.2, neg.1, neg.2, exs, (k'a l 10).n % 4294967296, (k'a l 14).n, u⟩
def okEh (s : List UInt8) (d : Int) : Option Eh := apO (okG tbQ tellEh s d)
theorem Eh.tell {x : Eh} (hwf : x.wf) (h_sum : k'48 x.sumH x.sum = true) (h_min : k'48 x.minH x.min = true) (h_max : k'48 x.maxH x.max = true) (d : Int) : tellEh d x.hF = (
 match mapO (fun s => okK s (d - 1)) (Kv.mars x.attrs) with
 | none => none
 | some attrs =>
 match sdO x.posH x.pos (d - 1) with
 | none => none
 | some pos =>
 match sdO x.negH x.neg (d - 1) with
 | none => none
 | some neg =>
 match mapO (fun s => okEm s (d - 1)) ((x.exs.map Em.mar)) with
 | none => none
 | some exs =>
 some fun u => ⟨attrs, x.start, x.time, x.count, x.sumH, x.sum, x.minH, x.min, x.maxH, x.max, x.scale, x.zero, pos.1, pos.2, neg.1, neg.2, exs, x.flags, x.thr, u⟩) := by
 obtain ⟨w0, w1, w2, w3, w4, w5, w6, w7, w8, w9, w10, w11, w12, w13⟩ := hwf
 have sattrs : sel 1 x.hF = psF 1 (Kv.mars x.attrs) := by unfold Eh.hF; simp [k'i, k'17, k'15, k'16, k'13, k'11, sel_sd]
 have tattrs : ∀ {α : Type} (ok : List UInt8 → Option α), k'7 ok 1 x.hF = mapO ok (Kv.mars x.attrs) := fun ok => k'2v ok sattrs
 have sstart : sel 2 x.hF = fxF 2 x.start := by unfold Eh.hF; simp [k'i, k'17, k'15, k'16, k'13, k'11, sel_sd]
 have tstart : (k'a x.hF 2).n = x.start := k'24 sstart
 have stime : sel 3 x.hF = fxF 3 x.time := by unfold Eh.hF; simp [k'i, k'17, k'15, k'16, k'13, k'11, sel_sd]
 have ttime : (k'a x.hF 3).n = x.time := k'24 stime
 have scount : sel 4 x.hF = fxF 4 x.count := by unfold Eh.hF; simp [k'i, k'17, k'15, k'16, k'13, k'11, sel_sd]
 have tcount : (k'a x.hF 4).n = x.count := k'24 scount
 have ssum : sel 5 x.hF = opF 5 x.sumH x.sum := by unfold Eh.hF; simp [k'i, k'17, k'15, k'16, k'13, k'11, sel_sd]
 have tsum := opt_of (by omega) ssum h_sum
 have smin : sel 12 x.hF = opF 12 x.minH x.min := by unfold Eh.hF; simp [k'i, k'17, k'15, k'16, k'13, k'11, sel_sd]
 have tmin := opt_of (by omega) smin h_min
 have smax : sel 13 x.hF = opF 13 x.maxH x.max := by unfold Eh.hF; simp [k'i, k'17, k'15, k'16, k'13, k'11, sel_sd]
 have tmax := opt_of (by omega) smax h_max
 have sscale : sel 6 x.hF = vrF 6 (zig32 x.scale) := by unfold Eh.hF; simp [k'i, k'17, k'15, k'16, k'13, k'11, sel_sd]
 have tscale : zag32 (k'a x.hF 6).n = x.scale := last_zg w7.1 w7.2 sscale
 have szero : sel 7 x.hF = fxF 7 x.zero := by unfold Eh.hF; simp [k'i, k'17, k'15, k'16, k'13, k'11, sel_sd]
 have tzero : (k'a x.hF 7).n = x.zero := k'24 szero
 have spos : sel 8 x.hF = sdF 8 x.posH x.pos := by unfold Eh.hF; simp [k'i, k'17, k'15, k'16, k'13, k'11, sel_sd]
 have tpos : ∀ e, partO (fun s => okB s e) noBk 8 x.hF = sdO x.posH x.pos e := fun e => part_sd e spos
 have sneg : sel 9 x.hF = sdF 9 x.negH x.neg := by unfold Eh.hF; simp [k'i, k'17, k'15, k'16, k'13, k'11, sel_sd]
 have tneg : ∀ e, partO (fun s => okB s e) noBk 9 x.hF = sdO x.negH x.neg e := fun e => part_sd e sneg
 have sexs : sel 11 x.hF = psF 11 (x.exs.map Em.mar) := by unfold Eh.hF; simp [k'i, k'17, k'15, k'16, k'13, k'11, sel_sd]
 have texs : ∀ {α : Type} (ok : List UInt8 → Option α), k'7 ok 11 x.hF = mapO ok ((x.exs.map Em.mar)) := fun ok => k'2v ok sexs
 have sflags : sel 10 x.hF = vrF 10 x.flags := by unfold Eh.hF; simp [k'i, k'17, k'15, k'16, k'13, k'11, sel_sd]
 have tflags : (k'a x.hF 10).n % 4294967296 = x.flags := by rw [last_vr sflags]; omega
 have sthr : sel 14 x.hF = fxF 14 x.thr := by unfold Eh.hF; simp [k'i, k'17, k'15, k'16, k'13, k'11, sel_sd]
 have tthr : (k'a x.hF 14).n = x.thr := k'24 sthr
 unfold tellEh
 simp only [tattrs, tstart, ttime, tcount, tsum.1, tsum.2, tmin.1, tmin.2, tmax.1, tmax.2, tscale, tzero, tpos, tneg, texs, tflags, tthr]
theorem Eh_told : Told okEh Eh.may Eh.wf Eh.sz 1400 := by
 intro d s x h
 obtain ⟨f, u, h1, rfl⟩ := k'2z h
 obtain ⟨l, -, h2, -, h4, hd, hf, hw⟩ := k'3e h1
 dsimp only at h2 h4 hw
 unfold tellEh at h2
 split at h2
 ·simp at h2
 rename_i attrs g_attrs
 split at h2
 ·simp at h2
 rename_i pos g_pos
 split at h2
 ·simp at h2
 rename_i neg g_neg
 split at h2
 ·simp at h2
 rename_i exs g_exs
 injection h2 with h2
 subst h2
 obtain ⟨p_attrs, q_attrs, r_attrs⟩ := Kv_told.parts hf g_attrs
 obtain ⟨p_exs, q_exs, r_exs⟩ := Em_told.parts hf g_exs
 obtain ⟨p_pos, q_pos, r_pos⟩ := sd_told hf g_pos
 obtain ⟨p_neg, q_neg, r_neg⟩ := sd_told hf g_neg
 refine ⟨?_, ⟨q_attrs, k'18 hf 2, k'18 hf 3, k'18 hf 4, k'18 hf 5, k'18 hf 12, k'18 hf 13, zag32_lt _, k'18 hf 7, q_pos, q_neg, q_exs, Nat.mod_lt _ (by decide), k'18 hf 14⟩, ?_⟩
 ·unfold Eh.may
  simp only [Bool.and_eq_true]
  exact ⟨⟨⟨⟨⟨⟨decide_eq_true hd, (⟨⟨opt_told, opt_told⟩, opt_told⟩)⟩, p_pos⟩, p_neg⟩, p_exs⟩, p_attrs⟩, h4⟩
 ·unfold Eh.sz
  simp only [Kv.szs_sum]
  omega
def Eh.eq (x y : Eh) : Bool := Kv.eqs x.attrs y.attrs && x.start == y.start && x.time == y.time && x.count == y.count && (x.sumH == y.sumH && x.sum == y.sum) && (x.minH == y.minH && x.min == y.min) && (x.maxH == y.maxH && x.max == y.max) && x.scale == y.scale && x.zero == y.zero && x.posH == y.posH && x.pos.eq y.pos && x.negH == y.negH && x.neg.eq y.neg && Em.eqs x.exs y.exs && x.flags == y.flags && x.thr == y.thr && x.u == y.u
def Eh.eqs : List Eh → List Eh → Bool
 | [], [] => true
 | v :: l, w :: r => v.eq w && Eh.eqs l r
 | [], _ :: _ => false
 | _ :: _, [] => false
theorem Eh.eq_self (x : Eh) : x.eq x = true := by unfold Eh.eq; simp [Kv.eqs_self, Bk.eq_self, Em.eqs_self]
theorem Eh.eqs_self : ∀ l : List Eh, Eh.eqs l l = true
 | [] => rfl
 | v :: l => by unfold Eh.eqs; simp [Eh.eq_self v, Eh.eqs_self l]
theorem Eh.eqs_by (a b : List Eh) : Eh.eqs a b = (a.length == b.length && (List.range a.length).all (byI Eh.eq a b)) :=
 k'4d Eh.eq Eh.eqs rfl (fun _ _ _ _ => rfl) (fun _ _ => rfl) (fun _ _ => rfl) a b
end
