/- Hist: what they are, their bytes, what may be, what is read. -/
import Derived.Test.YtpioginipokfiaaGreatDoorWF
import Derived.Test.YtpioginipokfiaaGreatDoorEW
set_option linter.unusedSimpArgs false
set_option linter.unusedVariables false
set_option maxRecDepth 100000
namespace Go.Proofs.YtpioginipokfiaaGreatDoor
open Go Go.Abs
structure Hi where
 attrs : List Kv
 start : Nat
 time : Nat
 count : Nat
 sumH : Bool
 sum : Nat
 minH : Bool
 min : Nat
 maxH : Bool
 max : Nat
 counts : List Nat
 bounds : List Nat
 exs : List Em
 flags : Nat
 u : List UInt8
def noHi : Hi := ⟨[], 0, 0, 0, false, 0, false, 0, false, 0, [], [], [], 0, []⟩
def Hi.hb (x : Hi) : List UInt8 := fxV 2 x.start ++ fxV 3 x.time ++ fxV 4 x.count ++ opV 5 x.sumH x.sum ++ pwV 6 x.counts ++ pwV 7 x.bounds ++ psV 8 (x.exs.map Em.mar) ++ psV 9 (Kv.mars x.attrs) ++ vrV 10 x.flags ++ opV 11 x.minH x.min ++ opV 12 x.maxH x.max
def Hi.hF (x : Hi) : List Fld := fxF 2 x.start ++ fxF 3 x.time ++ fxF 4 x.count ++ opF 5 x.sumH x.sum ++ pwF 6 x.counts ++ pwF 7 x.bounds ++ psF 8 (x.exs.map Em.mar) ++ psF 9 (Kv.mars x.attrs) ++ vrF 10 x.flags ++ opF 11 x.minH x.min ++ opF 12 x.maxH x.max
def Hi.mar (x : Hi) : List UInt8 := x.hb ++ x.u
variable (B : Fr)
def tbH (n k : Nat) : Bool := bif [6, 7].contains n then (k == 2 || k == 1) else bif [2, 3, 4, 5, 11, 12].contains n then k == 1 else bif [8, 9].contains n then k == 2 else bif [10].contains n then k == 0 else false
theorem tbH_calls (n k : Nat) : k'0 (cx B) 24 [iT n, iT k] [] (.d (.bool (tbH n k))) [] := by
 refine l_bw Tryz.func24 0 [] ?_
 cases h0 : ((n : Int) == 6) with
 | true =>
  have e : n = 6 := by have := eq_of_beq h0; omega
  subst e
  rw [show tbH 6 k = ((k : Int) == 2 || (k : Int) == 1) by rw [show ((k : Int) == 2) = (k == 2) from ibeq k 2, show ((k : Int) == 1) = (k == 1) from ibeq k 1]; rfl]
  refine Y ?_
  cases hk : ((k : Int) == 2)
  rotate_left
  ·exact Z
  exact Z
 | false =>
 have eh0 : n ≠ 6 := by have := ne_of_beq_false h0; omega
 refine Y ?_
 cases h1 : ((n : Int) == 7) with
 | true =>
  have e : n = 7 := by have := eq_of_beq h1; omega
  subst e
  rw [show tbH 7 k = ((k : Int) == 2 || (k : Int) == 1) by rw [show ((k : Int) == 2) = (k == 2) from ibeq k 2, show ((k : Int) == 1) = (k == 1) from ibeq k 1]; rfl]
  refine Y ?_
  cases hk : ((k : Int) == 2)
  rotate_left
  ·exact Z
  exact Z
 | false =>
 have eh1 : n ≠ 7 := by have := ne_of_beq_false h1; omega
 refine Y ?_
 cases h2 : ((n : Int) == 2) with
 | true =>
  have e : n = 2 := by have := eq_of_beq h2; omega
  subst e
  rw [show tbH 2 k = ((k : Int) == 1) from (ibeq k 1).symm]
  exact Z
 | false =>
 have eh2 : n ≠ 2 := by have := ne_of_beq_false h2; omega
 refine Y ?_
 cases h3 : ((n : Int) == 3) with
 | true =>
  have e : n = 3 := by have := eq_of_beq h3; omega
  subst e
  rw [show tbH 3 k = ((k : Int) == 1) from (ibeq k 1).symm]
  exact Z
 | false =>
 have eh3 : n ≠ 3 := by have := ne_of_beq_false h3; omega
 refine Y ?_
 cases h4 : ((n : Int) == 4) with
 | true =>
  have e : n = 4 := by have := eq_of_beq h4; omega
  subst e
  rw [show tbH 4 k = ((k : Int) == 1) from (ibeq k 1).symm]
  exact Z
 | false =>
 have eh4 : n ≠ 4 := by have := ne_of_beq_false h4; omega
 refine Y ?_
 cases h5 : ((n : Int) == 5) with
 | true =>
  have e : n = 5 := by have := eq_of_beq h5; omega
  subst e
  rw [show tbH 5 k = ((k : Int) == 1) from (ibeq k 1).symm]
  exact Z
 | false =>
 have eh5 : n ≠ 5 := by have := ne_of_beq_false h5; omega
 refine Y ?_
 cases h6 : ((n : Int) == 11) with
 | true =>
  have e : n = 11 := by have := eq_of_beq h6; omega
  subst e
  rw [show tbH 11 k = ((k : Int) == 1) from (ibeq k 1).symm]
  exact Z
 | false =>
 have eh6 : n ≠ 11 := by have := ne_of_beq_false h6; omega
 refine Y ?_
 cases h7 : ((n : Int) == 12) with
 | true =>
  have e : n = 12 := by have := eq_of_beq h7; omega
  subst e
  rw [show tbH 12 k = ((k : Int) == 1) from (ibeq k 1).symm]
  exact Z
 | false =>
 have eh7 : n ≠ 12 := by have := ne_of_beq_false h7; omega
 refine Y ?_
 cases h8 : ((n : Int) == 8) with
 | true =>
  have e : n = 8 := by have := eq_of_beq h8; omega
  subst e
  rw [show tbH 8 k = ((k : Int) == 2) from (ibeq k 2).symm]
  exact Z
 | false =>
 have eh8 : n ≠ 8 := by have := ne_of_beq_false h8; omega
 refine Y ?_
 cases h9 : ((n : Int) == 9) with
 | true =>
  have e : n = 9 := by have := eq_of_beq h9; omega
  subst e
  rw [show tbH 9 k = ((k : Int) == 2) from (ibeq k 2).symm]
  exact Z
 | false =>
 have eh9 : n ≠ 9 := by have := ne_of_beq_false h9; omega
 refine Y ?_
 cases h10 : ((n : Int) == 10) with
 | true =>
  have e : n = 10 := by have := eq_of_beq h10; omega
  subst e
  rw [show tbH 10 k = ((k : Int) == 0) from (ibeq k 0).symm]
  exact Z
 | false =>
 have eh10 : n ≠ 10 := by have := ne_of_beq_false h10; omega
 refine Y ?_
 rw [show tbH n k = false from by unfold tbH; simp [eh0, eh1, eh2, eh3, eh4, eh5, eh6, eh7, eh8, eh9, eh10]]
 exact k'i rfl
def Hi.wf (x : Hi) : Prop := (∀ k ∈ x.attrs, k.wf) ∧ x.start < 2 ^ 64 ∧ x.time < 2 ^ 64 ∧ x.count < 2 ^ 64 ∧ x.sum < 2 ^ 64 ∧ x.min < 2 ^ 64 ∧ x.max < 2 ^ 64 ∧ (∀ m ∈ x.counts, m < 2 ^ 64) ∧ (∀ m ∈ x.bounds, m < 2 ^ 64) ∧ (∀ k ∈ x.exs, k.wf) ∧ x.flags < 4294967296
def Hi.sz (x : Hi) : Nat := 300 + Kv.szs x.attrs + 8 * x.counts.length + 8 * x.bounds.length + (x.exs.map Em.sz).sum + x.u.length
def Hi.may (x : Hi) (d : Int) : Bool := decide (0 ≤ d) && (k'q x.sumH x.sum && k'q x.minH x.min && k'q x.maxH x.max) && (x.exs.all fun k => k.may (d - 1)) && (x.attrs.all fun k => k.may (d - 1)) && restB tbH x.u d
theorem Hi.hb_len (x : Hi) : x.mar.length + 20 ≤ x.sz := by
 have q0 := fxV_len 2 x.start
 have q1 := fxV_len 3 x.time
 have q2 := fxV_len 4 x.count
 have q3 := opV_len 5 x.sumH x.sum
 have q4 := pwV_len 6 x.counts
 have q5 := pwV_len 7 x.bounds
 have q6 := psV_sum 8 x.exs fun y _ => Em.mar_len y
 have q7 := Kv.marsP_len 9 x.attrs
 have q8 := vrV_len 10 x.flags
 have q9 := opV_len 11 x.minH x.min
 have q10 := opV_len 12 x.maxH x.max
 unfold Hi.mar Hi.hb Hi.sz
 simp only [List.length_append]
 omega
theorem Hi.mar_len (x : Hi) : x.mar.length + 20 ≤ x.sz := Hi.hb_len x
theorem Hi.mars_lt {l : List Hi} (h : (l.map Hi.sz).sum < big) : ∀ s ∈ l.map Hi.mar, s.length < 2 ^ 64 := fun s hs => by
 obtain ⟨k, hk, rfl⟩ := List.mem_map.1 hs
 have h1 := Hi.mar_len k; have h2 := sum_mem (sz := Hi.sz) hk
 unfold big at h; omega
theorem Hi.all {x : Hi} (h1 : x.sz < big) (h2 : x.wf) (d : Int) : all x.hb d = .ok x.hF := by
 unfold Hi.sz big at h1
 obtain ⟨w0, w1, w2, w3, w4, w5, w6, w7, w8, w9, w10⟩ := h2
 exact k'4 (k'4 (k'4 (k'4 (k'4 (k'4 (k'4 (k'4 (k'4 (k'4 (all_fx (by omega) (by omega) d (by omega)) (all_fx (by omega) (by omega) d (by omega))) (all_fx (by omega) (by omega) d (by omega))) (all_op (by omega) (by omega) d _ (by omega))) (all_pw 6 x.counts (by omega) (by omega) d (by omega))) (all_pw 7 x.bounds (by omega) (by omega) d (by omega))) (all_ps (by omega) (by omega) d (Em.mars_lt (by unfold big; omega)))) (all_ps (by omega) (by omega) d (Kv.mars_lt (by unfold big; omega)))) (all_vr (by omega) (by omega) d (by omega))) (all_op (by omega) (by omega) d _ (by omega))) (all_op (by omega) (by omega) d _ (by omega))
def tellHi (d : Int) (l : List Fld) : Option (List UInt8 → Hi) :=
 match k'a (fun s => okK s (d - 1)) 9 l with
 | none => none
 | some attrs =>
 match k'13 fixs 6 l with
 | none => none
 | some counts =>
 match k'13 fixs 7 l with
 | none => none
 | some bounds =>
 match k'a (fun s => okEm s (d - 1)) 8 l with
 | none => none
 | some exs =>
 some fun u => ⟨attrs, (k'e l 2).n, (k'e l 3).n, (k'e l 4).n, (hasL l 5), (k'e l 5).n, (hasL l 11), (k'e l 11).n, (hasL l 12), (k'e l 12).n, counts, bounds, exs, (k'e l 10).n % 4294967296, u⟩
def okHi (s : List UInt8) (d : Int) : Option Hi := apO (okG tbH tellHi s d)
theorem Hi.tell {x : Hi} (hwf : x.wf) (h_sum : k'q x.sumH x.sum = true) (h_min : k'q x.minH x.min = true) (h_max : k'q x.maxH x.max = true) (d : Int) : tellHi d x.hF = (
 match mapO (fun s => okK s (d - 1)) (Kv.mars x.attrs) with
 | none => none
 | some attrs =>
 match mapO (fun s => okEm s (d - 1)) ((x.exs.map Em.mar)) with
 | none => none
 | some exs =>
 some fun u => ⟨attrs, x.start, x.time, x.count, x.sumH, x.sum, x.minH, x.min, x.maxH, x.max, x.counts, x.bounds, exs, x.flags, u⟩) := by
 obtain ⟨w0, w1, w2, w3, w4, w5, w6, w7, w8, w9, w10⟩ := hwf
 have sattrs : sel 9 x.hF = psF 9 (Kv.mars x.attrs) := by unfold Hi.hF; simp [k'z, k'2f, k'2d, k'2e, k'28, k'1x, sel_pw]
 have tattrs : ∀ {α : Type} (ok : List UInt8 → Option α), k'a ok 9 x.hF = mapO ok (Kv.mars x.attrs) := fun ok => parts_of ok sattrs
 have sstart : sel 2 x.hF = fxF 2 x.start := by unfold Hi.hF; simp [k'z, k'2f, k'2d, k'2e, k'28, k'1x, sel_pw]
 have tstart : (k'e x.hF 2).n = x.start := last_fx sstart
 have stime : sel 3 x.hF = fxF 3 x.time := by unfold Hi.hF; simp [k'z, k'2f, k'2d, k'2e, k'28, k'1x, sel_pw]
 have ttime : (k'e x.hF 3).n = x.time := last_fx stime
 have scount : sel 4 x.hF = fxF 4 x.count := by unfold Hi.hF; simp [k'z, k'2f, k'2d, k'2e, k'28, k'1x, sel_pw]
 have tcount : (k'e x.hF 4).n = x.count := last_fx scount
 have ssum : sel 5 x.hF = opF 5 x.sumH x.sum := by unfold Hi.hF; simp [k'z, k'2f, k'2d, k'2e, k'28, k'1x, sel_pw]
 have tsum := opt_of (by omega) ssum h_sum
 have smin : sel 11 x.hF = opF 11 x.minH x.min := by unfold Hi.hF; simp [k'z, k'2f, k'2d, k'2e, k'28, k'1x, sel_pw]
 have tmin := opt_of (by omega) smin h_min
 have smax : sel 12 x.hF = opF 12 x.maxH x.max := by unfold Hi.hF; simp [k'z, k'2f, k'2d, k'2e, k'28, k'1x, sel_pw]
 have tmax := opt_of (by omega) smax h_max
 have scounts : sel 6 x.hF = pwF 6 x.counts := by unfold Hi.hF; simp [k'z, k'2f, k'2d, k'2e, k'28, k'1x, sel_pw]
 have tcounts : k'13 fixs 6 x.hF = some x.counts := pack_pw w7 scounts
 have sbounds : sel 7 x.hF = pwF 7 x.bounds := by unfold Hi.hF; simp [k'z, k'2f, k'2d, k'2e, k'28, k'1x, sel_pw]
 have tbounds : k'13 fixs 7 x.hF = some x.bounds := pack_pw w8 sbounds
 have sexs : sel 8 x.hF = psF 8 (x.exs.map Em.mar) := by unfold Hi.hF; simp [k'z, k'2f, k'2d, k'2e, k'28, k'1x, sel_pw]
 have texs : ∀ {α : Type} (ok : List UInt8 → Option α), k'a ok 8 x.hF = mapO ok ((x.exs.map Em.mar)) := fun ok => parts_of ok sexs
 have sflags : sel 10 x.hF = vrF 10 x.flags := by unfold Hi.hF; simp [k'z, k'2f, k'2d, k'2e, k'28, k'1x, sel_pw]
 have tflags : (k'e x.hF 10).n % 4294967296 = x.flags := by rw [last_vr sflags]; omega
 unfold tellHi
 simp only [tattrs, tstart, ttime, tcount, tsum.1, tsum.2, tmin.1, tmin.2, tmax.1, tmax.2, tcounts, tbounds, texs, tflags]
def Hi.eq (x y : Hi) : Bool := Kv.eqs x.attrs y.attrs && x.start == y.start && x.time == y.time && x.count == y.count && (x.sumH == y.sumH && x.sum == y.sum) && (x.minH == y.minH && x.min == y.min) && (x.maxH == y.maxH && x.max == y.max) && x.counts == y.counts && x.bounds == y.bounds && Em.eqs x.exs y.exs && x.flags == y.flags && x.u == y.u
def Hi.eqs : List Hi → List Hi → Bool
 | [], [] => true
 | v :: l, w :: r => v.eq w && Hi.eqs l r
 | [], _ :: _ => false
 | _ :: _, [] => false
theorem Hi.eqs_by (a b : List Hi) : Hi.eqs a b = (a.length == b.length && (List.range a.length).all (byI Hi.eq a b)) :=
 byI_all Hi.eq Hi.eqs rfl (fun _ _ _ _ => rfl) (fun _ _ => rfl) (fun _ _ => rfl) a b
