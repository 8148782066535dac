/- Exp: what they are, their bytes, what may be, what is read. -/
import Derived.Test.YtnaojdjhjkendaaGreatDoorHP
import Derived.Test.YtnaojdjhjkendaaGreatDoorEW
import Derived.Test.YtnaojdjhjkendaaGreatDoorSD
set_option linter.unusedSimpArgs false
set_option linter.unusedVariables false
set_option maxRecDepth 100000
namespace Go.Proofs.YtnaojdjhjkendaaGreatDoor
open Go Go.Abs
structure Eh where
 attrs : List Kv
 start : Nat
 time : Nat
 count : Nat
 sumH : Bool
 sum : Nat
 minH : Bool
 min : Nat
 maxH : Bool
 max : Nat
 scale : Int
 zero : Nat
 posH : Bool
 pos : Bk
 negH : Bool
 neg : Bk
 exs : List Em
 flags : Nat
 thr : Nat
 u : List UInt8
def Eh.hb (x : Eh) : List UInt8 := psV 1 (Kv.mars x.attrs) ++ fxV 2 x.start ++ fxV 3 x.time ++ fxV 4 x.count ++ opV 5 x.sumH x.sum ++ vrV 6 (k'2b x.scale) ++ fxV 7 x.zero ++ sdV 8 x.posH x.pos ++ sdV 9 x.negH x.neg ++ vrV 10 x.flags ++ psV 11 (x.exs.map Em.mar) ++ opV 12 x.minH x.min ++ opV 13 x.maxH x.max ++ fxV 14 x.thr
def Eh.hF (x : Eh) : List Fld := psF 1 (Kv.mars x.attrs) ++ fxF 2 x.start ++ fxF 3 x.time ++ fxF 4 x.count ++ opF 5 x.sumH x.sum ++ vrF 6 (k'2b x.scale) ++ fxF 7 x.zero ++ sdF 8 x.posH x.pos ++ sdF 9 x.negH x.neg ++ vrF 10 x.flags ++ psF 11 (x.exs.map Em.mar) ++ opF 12 x.minH x.min ++ opF 13 x.maxH x.max ++ fxF 14 x.thr
def Eh.mar (x : Eh) : List UInt8 := x.hb ++ x.u
variable (B : Fr)
def tbQ (n k : Nat) : Bool := bif [2, 3, 4, 5, 7, 12, 13, 14].contains n then k == 1 else bif [1, 8, 9, 11].contains n then k == 2 else bif [6, 10].contains n then k == 0 else false
theorem tbQ_calls (n k : Nat) : k'0 (cx B) 176 [iT n, iT k] [] (.d (.bool (tbQ n k))) [] := by
 refine l_bw Tryz.func176 0 [] ?_
 cases h0 : ((n : Int) == 2) with
 | true =>
  have e : n = 2 := by have := eq_of_beq h0; omega
  subst e
  rw [show tbQ 2 k = ((k : Int) == 1) from (ibeq k 1).symm]
  exact Z
 | false =>
 have eh0 : n ≠ 2 := by have := ne_of_beq_false h0; omega
 refine Y ?_
 cases h1 : ((n : Int) == 3) with
 | true =>
  have e : n = 3 := by have := eq_of_beq h1; omega
  subst e
  rw [show tbQ 3 k = ((k : Int) == 1) from (ibeq k 1).symm]
  exact Z
 | false =>
 have eh1 : n ≠ 3 := by have := ne_of_beq_false h1; omega
 refine Y ?_
 cases h2 : ((n : Int) == 4) with
 | true =>
  have e : n = 4 := by have := eq_of_beq h2; omega
  subst e
  rw [show tbQ 4 k = ((k : Int) == 1) from (ibeq k 1).symm]
  exact Z
 | false =>
 have eh2 : n ≠ 4 := by have := ne_of_beq_false h2; omega
 refine Y ?_
 cases h3 : ((n : Int) == 5) with
 | true =>
  have e : n = 5 := by have := eq_of_beq h3; omega
  subst e
  rw [show tbQ 5 k = ((k : Int) == 1) from (ibeq k 1).symm]
  exact Z
 | false =>
 have eh3 : n ≠ 5 := by have := ne_of_beq_false h3; omega
 refine Y ?_
 cases h4 : ((n : Int) == 7) with
 | true =>
  have e : n = 7 := by have := eq_of_beq h4; omega
  subst e
  rw [show tbQ 7 k = ((k : Int) == 1) from (ibeq k 1).symm]
  exact Z
 | false =>
 have eh4 : n ≠ 7 := by have := ne_of_beq_false h4; omega
 refine Y ?_
 cases h5 : ((n : Int) == 12) with
 | true =>
  have e : n = 12 := by have := eq_of_beq h5; omega
  subst e
  rw [show tbQ 12 k = ((k : Int) == 1) from (ibeq k 1).symm]
  exact Z
 | false =>
 have eh5 : n ≠ 12 := by have := ne_of_beq_false h5; omega
 refine Y ?_
 cases h6 : ((n : Int) == 13) with
 | true =>
  have e : n = 13 := by have := eq_of_beq h6; omega
  subst e
  rw [show tbQ 13 k = ((k : Int) == 1) from (ibeq k 1).symm]
  exact Z
 | false =>
 have eh6 : n ≠ 13 := by have := ne_of_beq_false h6; omega
 refine Y ?_
 cases h7 : ((n : Int) == 14) with
 | true =>
  have e : n = 14 := by have := eq_of_beq h7; omega
  subst e
  rw [show tbQ 14 k = ((k : Int) == 1) from (ibeq k 1).symm]
  exact Z
 | false =>
 have eh7 : n ≠ 14 := by have := ne_of_beq_false h7; omega
 refine Y ?_
 cases h8 : ((n : Int) == 1) with
 | true =>
  have e : n = 1 := by have := eq_of_beq h8; omega
  subst e
  rw [show tbQ 1 k = ((k : Int) == 2) from (ibeq k 2).symm]
  exact Z
 | false =>
 have eh8 : n ≠ 1 := by have := ne_of_beq_false h8; omega
 refine Y ?_
 cases h9 : ((n : Int) == 8) with
 | true =>
  have e : n = 8 := by have := eq_of_beq h9; omega
  subst e
  rw [show tbQ 8 k = ((k : Int) == 2) from (ibeq k 2).symm]
  exact Z
 | false =>
 have eh9 : n ≠ 8 := by have := ne_of_beq_false h9; omega
 refine Y ?_
 cases h10 : ((n : Int) == 9) with
 | true =>
  have e : n = 9 := by have := eq_of_beq h10; omega
  subst e
  rw [show tbQ 9 k = ((k : Int) == 2) from (ibeq k 2).symm]
  exact Z
 | false =>
 have eh10 : n ≠ 9 := by have := ne_of_beq_false h10; omega
 refine Y ?_
 cases h11 : ((n : Int) == 11) with
 | true =>
  have e : n = 11 := by have := eq_of_beq h11; omega
  subst e
  rw [show tbQ 11 k = ((k : Int) == 2) from (ibeq k 2).symm]
  exact Z
 | false =>
 have eh11 : n ≠ 11 := by have := ne_of_beq_false h11; omega
 refine Y ?_
 cases h12 : ((n : Int) == 6) with
 | true =>
  have e : n = 6 := by have := eq_of_beq h12; omega
  subst e
  rw [show tbQ 6 k = ((k : Int) == 0) from (ibeq k 0).symm]
  exact Z
 | false =>
 have eh12 : n ≠ 6 := by have := ne_of_beq_false h12; omega
 refine Y ?_
 cases h13 : ((n : Int) == 10) with
 | true =>
  have e : n = 10 := by have := eq_of_beq h13; omega
  subst e
  rw [show tbQ 10 k = ((k : Int) == 0) from (ibeq k 0).symm]
  exact Z
 | false =>
 have eh13 : n ≠ 10 := by have := ne_of_beq_false h13; omega
 refine Y ?_
 rw [show tbQ n k = false from by unfold tbQ; simp [eh0, eh1, eh2, eh3, eh4, eh5, eh6, eh7, eh8, eh9, eh10, eh11, eh12, eh13]]
 exact k'f rfl
def Eh.wf (x : Eh) : Prop := (∀ k ∈ x.attrs, k.wf) ∧ x.start < 2 ^ 64 ∧ x.time < 2 ^ 64 ∧ x.count < 2 ^ 64 ∧ x.sum < 2 ^ 64 ∧ x.min < 2 ^ 64 ∧ x.max < 2 ^ 64 ∧ (-2147483648 ≤ x.scale ∧ x.scale < 2147483648) ∧ x.zero < 2 ^ 64 ∧ x.pos.wf ∧ x.neg.wf ∧ (∀ k ∈ x.exs, k.wf) ∧ x.flags < 4294967296 ∧ x.thr < 2 ^ 64
def Eh.sz (x : Eh) : Nat := 300 + Kv.szs x.attrs + x.pos.sz + x.neg.sz + (x.exs.map Em.sz).sum + x.u.length
def Eh.may (x : Eh) (d : Int) : Bool := decide (0 ≤ d) && (k'h x.sumH x.sum && k'h x.minH x.min && k'h x.maxH x.max) && maySd x.posH x.pos (d - 1) && maySd x.negH x.neg (d - 1) && (x.exs.all fun k => k.may (d - 1)) && (x.attrs.all fun k => k.may (d - 1)) && k'1v tbQ x.u d
theorem Eh.hb_len (x : Eh) : x.mar.length + 20 ≤ x.sz := by
 have q0 := Kv.marsP_len 1 x.attrs
 have q1 := k'23 2 x.start
 have q2 := k'23 3 x.time
 have q3 := k'23 4 x.count
 have q4 := k'3z 5 x.sumH x.sum
 have q5 := vrV_len 6 (k'2b x.scale)
 have q6 := k'23 7 x.zero
 have q7 := sdV_len 8 x.posH x.pos
 have q8 := sdV_len 9 x.negH x.neg
 have q9 := vrV_len 10 x.flags
 have q10 := k'1s 11 x.exs fun y _ => Em.mar_len y
 have q11 := k'3z 12 x.minH x.min
 have q12 := k'3z 13 x.maxH x.max
 have q13 := k'23 14 x.thr
 unfold Eh.mar Eh.hb Eh.sz
 simp only [List.length_append]
 omega
theorem Eh.mar_len (x : Eh) : x.mar.length + 20 ≤ x.sz := Eh.hb_len x
theorem Eh.mars_lt {l : List Eh} (h : (l.map Eh.sz).sum < big) : ∀ s ∈ l.map Eh.mar, s.length < 2 ^ 64 := fun s hs => by
 obtain ⟨k, hk, rfl⟩ := List.mem_map.1 hs
 have h1 := Eh.mar_len k; have h2 := k'18 (sz := Eh.sz) hk
 unfold big at h; omega
theorem Eh.all {x : Eh} (h1 : x.sz < big) (h2 : x.wf) (d : Int) : all x.hb d = .ok x.hF := by
 unfold Eh.sz big at h1
 obtain ⟨w0, w1, w2, w3, w4, w5, w6, w7, w8, w9, w10, w11, w12, w13⟩ := h2
 exact k'3 (k'3 (k'3 (k'3 (k'3 (k'3 (k'3 (k'3 (k'3 (k'3 (k'3 (k'3 (k'3 (k'4a (by omega) (by omega) d (Kv.mars_lt (by unfold big; omega))) (k'3r (by omega) (by omega) d (by omega))) (k'3r (by omega) (by omega) d (by omega))) (k'3r (by omega) (by omega) d (by omega))) (all_op (by omega) (by omega) d _ (by omega))) (all_vr (by omega) (by omega) d (zig32_lt _ (by omega) (by omega)))) (k'3r (by omega) (by omega) d (by omega))) (all_sd 8 x.posH x.pos (by omega) (by omega) d (by unfold big; omega))) (all_sd 9 x.negH x.neg (by omega) (by omega) d (by unfold big; omega))) (all_vr (by omega) (by omega) d (by omega))) (k'4a (by omega) (by omega) d (Em.mars_lt (by unfold big; omega)))) (all_op (by omega) (by omega) d _ (by omega))) (all_op (by omega) (by omega) d _ (by omega))) (k'3r (by omega) (by omega) d (by omega))
def tellEh (d : Int) (l : List Fld) : Option (List UInt8 → Eh) :=
 match k'1q (fun s => okK s (d - 1)) 1 l with
 | none => none
 | some attrs =>
 match partO (fun s => okB s (d - 1)) noBk 8 l with
 | none => none
 | some pos =>
 match partO (fun s => okB s (d - 1)) noBk 9 l with
 | none => none
 | some neg =>
 match k'1q (fun s => okEm s (d - 1)) 11 l with
 | none => none
 | some exs =>
 some fun u => ⟨attrs, (k'z l 2).n, (k'z l 3).n, (k'z l 4).n, (hasL l 5), (k'z l 5).n, (hasL l 12), (k'z l 12).n, (hasL l 13), (k'z l 13).n, zag32 (k'z l 6).n, (k'z l 7).n, pos.1, pos.2, neg.1, neg.2, exs, (k'z l 10).n % 4294967296, (k'z l 14).n, u⟩
def okEh (s : List UInt8) (d : Int) : Option Eh := apO (okG tbQ tellEh s d)
theorem Eh.tell {x : Eh} (hwf : x.wf) (h_sum : k'h x.sumH x.sum = true) (h_min : k'h x.minH x.min = true) (h_max : k'h x.maxH x.max = true) (d : Int) : tellEh d x.hF = (
 match mapO (fun s => okK s (d - 1)) (Kv.mars x.attrs) with
 | none => none
 | some attrs =>
 match sdO x.posH x.pos (d - 1) with
 | none => none
 | some pos =>
 match sdO x.negH x.neg (d - 1) with
 | none => none
 | some neg =>
 match mapO (fun s => okEm s (d - 1)) ((x.exs.map Em.mar)) with
 | none => none
 | some exs =>
 some fun u => ⟨attrs, x.start, x.time, x.count, x.sumH, x.sum, x.minH, x.min, x.maxH, x.max, x.scale, x.zero, pos.1, pos.2, neg.1, neg.2, exs, x.flags, x.thr, u⟩) := by
 obtain ⟨w0, w1, w2, w3, w4, w5, w6, w7, w8, w9, w10, w11, w12, w13⟩ := hwf
 have sattrs : sel 1 x.hF = psF 1 (Kv.mars x.attrs) := by unfold Eh.hF; simp [k'9, k's, k'q, k'r, k'p, k'n, sel_sd]
 have tattrs : ∀ {α : Type} (ok : List UInt8 → Option α), k'1q ok 1 x.hF = mapO ok (Kv.mars x.attrs) := fun ok => k'2v ok sattrs
 have sstart : sel 2 x.hF = fxF 2 x.start := by unfold Eh.hF; simp [k'9, k's, k'q, k'r, k'p, k'n, sel_sd]
 have tstart : (k'z x.hF 2).n = x.start := k'21 sstart
 have stime : sel 3 x.hF = fxF 3 x.time := by unfold Eh.hF; simp [k'9, k's, k'q, k'r, k'p, k'n, sel_sd]
 have ttime : (k'z x.hF 3).n = x.time := k'21 stime
 have scount : sel 4 x.hF = fxF 4 x.count := by unfold Eh.hF; simp [k'9, k's, k'q, k'r, k'p, k'n, sel_sd]
 have tcount : (k'z x.hF 4).n = x.count := k'21 scount
 have ssum : sel 5 x.hF = opF 5 x.sumH x.sum := by unfold Eh.hF; simp [k'9, k's, k'q, k'r, k'p, k'n, sel_sd]
 have tsum := opt_of (by omega) ssum h_sum
 have smin : sel 12 x.hF = opF 12 x.minH x.min := by unfold Eh.hF; simp [k'9, k's, k'q, k'r, k'p, k'n, sel_sd]
 have tmin := opt_of (by omega) smin h_min
 have smax : sel 13 x.hF = opF 13 x.maxH x.max := by unfold Eh.hF; simp [k'9, k's, k'q, k'r, k'p, k'n, sel_sd]
 have tmax := opt_of (by omega) smax h_max
 have sscale : sel 6 x.hF = vrF 6 (k'2b x.scale) := by unfold Eh.hF; simp [k'9, k's, k'q, k'r, k'p, k'n, sel_sd]
 have tscale : zag32 (k'z x.hF 6).n = x.scale := last_zg w7.1 w7.2 sscale
 have szero : sel 7 x.hF = fxF 7 x.zero := by unfold Eh.hF; simp [k'9, k's, k'q, k'r, k'p, k'n, sel_sd]
 have tzero : (k'z x.hF 7).n = x.zero := k'21 szero
 have spos : sel 8 x.hF = sdF 8 x.posH x.pos := by unfold Eh.hF; simp [k'9, k's, k'q, k'r, k'p, k'n, sel_sd]
 have tpos : ∀ e, partO (fun s => okB s e) noBk 8 x.hF = sdO x.posH x.pos e := fun e => part_sd e spos
 have sneg : sel 9 x.hF = sdF 9 x.negH x.neg := by unfold Eh.hF; simp [k'9, k's, k'q, k'r, k'p, k'n, sel_sd]
 have tneg : ∀ e, partO (fun s => okB s e) noBk 9 x.hF = sdO x.negH x.neg e := fun e => part_sd e sneg
 have sexs : sel 11 x.hF = psF 11 (x.exs.map Em.mar) := by unfold Eh.hF; simp [k'9, k's, k'q, k'r, k'p, k'n, sel_sd]
 have texs : ∀ {α : Type} (ok : List UInt8 → Option α), k'1q ok 11 x.hF = mapO ok ((x.exs.map Em.mar)) := fun ok => k'2v ok sexs
 have sflags : sel 10 x.hF = vrF 10 x.flags := by unfold Eh.hF; simp [k'9, k's, k'q, k'r, k'p, k'n, sel_sd]
 have tflags : (k'z x.hF 10).n % 4294967296 = x.flags := by rw [last_vr sflags]; omega
 have sthr : sel 14 x.hF = fxF 14 x.thr := by unfold Eh.hF; simp [k'9, k's, k'q, k'r, k'p, k'n, sel_sd]
 have tthr : (k'z x.hF 14).n = x.thr := k'21 sthr
 unfold tellEh
 simp only [tattrs, tstart, ttime, tcount, tsum.1, tsum.2, tmin.1, tmin.2, tmax.1, tmax.2, tscale, tzero, tpos, tneg, texs, tflags, tthr]
theorem Eh.far (x : Eh) (d e : Int) (he : (x.sz : Int) ≤ e) (h : x.may d = true) : x.may e = true := by
 unfold Eh.may at h ⊢
 unfold Eh.sz at he
 simp only [Bool.and_eq_true, decide_eq_true_eq] at h ⊢
 obtain ⟨⟨⟨⟨⟨⟨hd, ⟨⟨m_sum, m_min⟩, m_max⟩⟩, m_pos⟩, m_neg⟩, m_exs⟩, m_attrs⟩, hu⟩ := h
 exact ⟨⟨⟨⟨⟨⟨by omega, ⟨⟨m_sum, m_min⟩, m_max⟩⟩, sd_far (by omega) m_pos⟩, sd_far (by omega) m_neg⟩, List.all_eq_true.2 fun k hk => k.far _ _ (by have := k'18 (sz := Em.sz) hk; omega) (List.all_eq_true.1 m_exs k hk)⟩, by rw [← Kv.mays_all] at m_attrs ⊢; exact Kv.fars x.attrs _ _ (by omega) m_attrs⟩, k'2j (by omega) hu⟩
def Eh.eq (x y : Eh) : Bool := Kv.eqs x.attrs y.attrs && x.start == y.start && x.time == y.time && x.count == y.count && (x.sumH == y.sumH && x.sum == y.sum) && (x.minH == y.minH && x.min == y.min) && (x.maxH == y.maxH && x.max == y.max) && x.scale == y.scale && x.zero == y.zero && x.posH == y.posH && x.pos.eq y.pos && x.negH == y.negH && x.neg.eq y.neg && Em.eqs x.exs y.exs && x.flags == y.flags && x.thr == y.thr && x.u == y.u
def Eh.eqs : List Eh → List Eh → Bool
 | [], [] => true
 | v :: l, w :: r => v.eq w && Eh.eqs l r
 | [], _ :: _ => false
 | _ :: _, [] => false
theorem Eh.eqs_by (a b : List Eh) : Eh.eqs a b = (a.length == b.length && (List.range a.length).all (byI Eh.eq a b)) :=
 k'40 Eh.eq Eh.eqs rfl (fun _ _ _ _ => rfl) (fun _ _ => rfl) (fun _ _ => rfl) a b
