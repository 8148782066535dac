/- Exp: what they are, their bytes, what may be, what is read. -/
import Derived.Test.YtcfkbpddmdfbaaaGreatDoorSD
import Derived.Test.YtcfkbpddmdfbaaaGreatDoorNW
set_option linter.unusedSimpArgs false
set_option linter.unusedVariables false
set_option maxRecDepth 100000
namespace Go.Proofs.YtcfkbpddmdfbaaaGreatDoor
open Go Go.Abs
variable (B : Fr)
section
structure Eh where
 attrs : List Kv
 start : Nat
 time : Nat
 count : Nat
 sumH : Bool
 sum : Nat
 minH : Bool
 min : Nat
 maxH : Bool
 max : Nat
 scale : Int
 zero : Nat
 posH : Bool
 pos : Bk
 negH : Bool
 neg : Bk
 exs : List Em
 flags : Nat
 thr : Nat
 u : List UInt8
def Eh.hb (x : Eh) : List UInt8 := psV 1 (Kv.mars x.attrs) ++ fxV 2 x.start ++ fxV 3 x.time ++ fxV 4 x.count ++ opV 5 x.sumH x.sum ++ vrV 6 (k'2o x.scale) ++ fxV 7 x.zero ++ sdV 8 x.posH x.pos ++ sdV 9 x.negH x.neg ++ vrV 10 x.flags ++ psV 11 (x.exs.map Em.mar) ++ opV 12 x.minH x.min ++ opV 13 x.maxH x.max ++ fxV 14 x.thr
def Eh.hF (x : Eh) : List Fld := psF 1 (Kv.mars x.attrs) ++ fxF 2 x.start ++ fxF 3 x.time ++ fxF 4 x.count ++ opF 5 x.sumH x.sum ++ vrF 6 (k'2o x.scale) ++ fxF 7 x.zero ++ sdF 8 x.posH x.pos ++ sdF 9 x.negH x.neg ++ vrF 10 x.flags ++ psF 11 (x.exs.map Em.mar) ++ opF 12 x.minH x.min ++ opF 13 x.maxH x.max ++ fxF 14 x.thr
def Eh.mar (x : Eh) : List UInt8 := x.hb ++ x.u
def tbQ (n k : Nat) : Bool := bif [2, 3, 4, 5, 7, 12, 13, 14].contains n then k == 1 else bif [1, 8, 9, 11].contains n then k == 2 else bif [6, 10].contains n then k == 0 else false
theorem tbQ_calls (n k : Nat) : k'0 (cx B) 344 [iT n, iT k] [] (.d (.bool (tbQ n k))) [] := by
 refine l_bw Tryz.func344 0 [] ?_
 cases h0 : ((n : Int) == 2) with
 | true =>
  have e : n = 2 := by have := eq_of_beq h0; omega
  subst e
  rw [show tbQ 2 k = ((k : Int) == 1) from (ibeq k 1).symm]
  exact Z
 | false =>
 have eh0 : n ≠ 2 := by have := ne_of_beq_false h0; omega
 refine Y ?_
 cases h1 : ((n : Int) == 3) with
 | true =>
  have e : n = 3 := by have := eq_of_beq h1; omega
  subst e
  rw [show tbQ 3 k = ((k : Int) == 1) from (ibeq k 1).symm]
  exact Z
 | false =>
 have eh1 : n ≠ 3 := by have := ne_of_beq_false h1; omega
 refine Y ?_
 cases h2 : ((n : Int) == 4) with
 | true =>
  have e : n = 4 := by have := eq_of_beq h2; omega
  subst e
  rw [show tbQ 4 k = ((k : Int) == 1) from (ibeq k 1).symm]
  exact Z
 | false =>
 have eh2 : n ≠ 4 := by have := ne_of_beq_false h2; omega
 refine Y ?_
 cases h3 : ((n : Int) == 5) with
 | true =>
  have e : n = 5 := by have := eq_of_beq h3; omega
  subst e
  rw [show tbQ 5 k = ((k : Int) == 1) from (ibeq k 1).symm]
  exact Z
 | false =>
 have eh3 : n ≠ 5 := by have := ne_of_beq_false h3; omega
 refine Y ?_
 cases h4 : ((n : Int) == 7) with
 | true =>
  have e : n = 7 := by have := eq_of_beq h4; omega
  subst e
  rw [show tbQ 7 k = ((k : Int) == 1) from (ibeq k 1).symm]
  exact Z
 | false =>
 have eh4 : n ≠ 7 := by have := ne_of_beq_false h4; omega
 refine Y ?_
 cases h5 : ((n : Int) == 12) with
 | true =>
  have e : n = 12 := by have := eq_of_beq h5; omega
  subst e
  rw [show tbQ 12 k = ((k : Int) == 1) from (ibeq k 1).symm]
  exact Z
 | false =>
 have eh5 : n ≠ 12 := by have := ne_of_beq_false h5; omega
 refine Y ?_
 cases h6 : ((n : Int) == 13) with
 | true =>
  have e : n = 13 := by have := eq_of_beq h6; omega
  subst e
  rw [show tbQ 13 k = ((k : Int) == 1) from (ibeq k 1).symm]
  exact Z
 | false =>
 have eh6 : n ≠ 13 := by have := ne_of_beq_false h6; omega
 refine Y ?_
 cases h7 : ((n : Int) == 14) with
 | true =>
  have e : n = 14 := by have := eq_of_beq h7; omega
  subst e
  rw [show tbQ 14 k = ((k : Int) == 1) from (ibeq k 1).symm]
  exact Z
 | false =>
 have eh7 : n ≠ 14 := by have := ne_of_beq_false h7; omega
 refine Y ?_
 cases h8 : ((n : Int) == 1) with
 | true =>
  have e : n = 1 := by have := eq_of_beq h8; omega
  subst e
  rw [show tbQ 1 k = ((k : Int) == 2) from (ibeq k 2).symm]
  exact Z
 | false =>
 have eh8 : n ≠ 1 := by have := ne_of_beq_false h8; omega
 refine Y ?_
 cases h9 : ((n : Int) == 8) with
 | true =>
  have e : n = 8 := by have := eq_of_beq h9; omega
  subst e
  rw [show tbQ 8 k = ((k : Int) == 2) from (ibeq k 2).symm]
  exact Z
 | false =>
 have eh9 : n ≠ 8 := by have := ne_of_beq_false h9; omega
 refine Y ?_
 cases h10 : ((n : Int) == 9) with
 | true =>
  have e : n = 9 := by have := eq_of_beq h10; omega
  subst e
  rw [show tbQ 9 k = ((k : Int) == 2) from (ibeq k 2).symm]
  exact Z
 | false =>
 have eh10 : n ≠ 9 := by have := ne_of_beq_false h10; omega
 refine Y ?_
 cases h11 : ((n : Int) == 11) with
 | true =>
  have e : n = 11 := by have := eq_of_beq h11; omega
  subst e
  rw [show tbQ 11 k = ((k : Int) == 2) from (ibeq k 2).symm]
  exact Z
 | false =>
 have eh11 : n ≠ 11 := by have := ne_of_beq_false h11; omega
 refine Y ?_
 cases h12 : ((n : Int) == 6) with
 | true =>
  have e : n = 6 := by have := eq_of_beq h12; omega
  subst e
  rw [show tbQ 6 k = ((k : Int) == 0) from (ibeq k 0).symm]
  exact Z
 | false =>
 have eh12 : n ≠ 6 := by have := ne_of_beq_false h12; omega
 refine Y ?_
 cases h13 : ((n : Int) == 10) with
 | true =>
  have e : n = 10 := by have := eq_of_beq h13; omega
  subst e
  rw [show tbQ 10 k = ((k : Int) == 0) from (ibeq k 0).symm]
  exact Z
 | false =>
 have eh13 : n ≠ 10 := by have := ne_of_beq_false h13; omega
 refine Y ?_
 rw [show tbQ n k = false from by unfold tbQ; simp [eh0, eh1, eh2, eh3, eh4, eh5, eh6, eh7, eh8, eh9, eh10, eh11, eh12, eh13]]
 exact k'i rfl
def Eh.wf (x : Eh) : Prop := (∀ k ∈ x.attrs, k.wf) ∧ x.start < 2 ^ 64 ∧ x.time < 2 ^ 64 ∧ x.count < 2 ^ 64 ∧ x.sum < 2 ^ 64 ∧ x.min < 2 ^ 64 ∧ x.max < 2 ^ 64 ∧ (-2147483648 ≤ x.scale ∧ x.scale < 2147483648) ∧ x.zero < 2 ^ 64 ∧ x.pos.wf ∧ x.neg.wf ∧ (∀ k ∈ x.exs, k.wf) ∧ x.flags < 4294967296 ∧ x.thr < 2 ^ 64
def Eh.sz (x : Eh) : Nat := 300 + Kv.szs x.attrs + x.pos.sz + x.neg.sz + (x.exs.map Em.sz).sum + x.u.length
def Eh.may (x : Eh) (d : Int) : Bool := decide (0 ≤ d) && (k'l x.sumH x.sum && k'l x.minH x.min && k'l x.maxH x.max) && maySd x.posH x.pos (d - 1) && maySd x.negH x.neg (d - 1) && (x.exs.all fun k => k.may (d - 1)) && (x.attrs.all fun k => k.may (d - 1)) && k'1a tbQ x.u d
theorem Eh.hb_len (x : Eh) : x.mar.length + 20 ≤ x.sz := by
 have q0 := Kv.marsP_len 1 x.attrs
 have q1 := k'2e 2 x.start
 have q2 := k'2e 3 x.time
 have q3 := k'2e 4 x.count
 have q4 := k'4f 5 x.sumH x.sum
 have q5 := k'3d 6 (k'2o x.scale)
 have q6 := k'2e 7 x.zero
 have q7 := sdV_len 8 x.posH x.pos
 have q8 := sdV_len 9 x.negH x.neg
 have q9 := k'3d 10 x.flags
 have q10 := k'1v 11 x.exs fun y _ => Em.mar_len y
 have q11 := k'4f 12 x.minH x.min
 have q12 := k'4f 13 x.maxH x.max
 have q13 := k'2e 14 x.thr
 unfold Eh.mar Eh.hb Eh.sz
 simp only [List.length_append]
 omega
theorem Eh.mar_len (x : Eh) : x.mar.length + 20 ≤ x.sz := Eh.hb_len x
theorem Eh.mars_lt {l : List Eh} (h : (l.map Eh.sz).sum < big) : ∀ s ∈ l.map Eh.mar, s.length < 2 ^ 64 := fun s hs => by
 obtain ⟨k, hk, rfl⟩ := List.mem_map.1 hs
 have h1 := Eh.mar_len k; have h2 := k'x (sz := Eh.sz) hk
 unfold big at h; omega
theorem Eh.all {x : Eh} (h1 : x.sz < big) (h2 : x.wf) (d : Int) : all x.hb d = .ok x.hF := by
 unfold Eh.sz big at h1
 obtain ⟨w0, w1, w2, w3, w4, w5, w6, w7, w8, w9, w10, w11, w12, w13⟩ := h2
 exact k'4 (k'4 (k'4 (k'4 (k'4 (k'4 (k'4 (k'4 (k'4 (k'4 (k'4 (k'4 (k'4 (k'40 (by omega) (by omega) d (Kv.mars_lt (by unfold big; omega))) (k'41 (by omega) (by omega) d (by omega))) (k'41 (by omega) (by omega) d (by omega))) (k'41 (by omega) (by omega) d (by omega))) (all_op (by omega) (by omega) d _ (by omega))) (all_vr (by omega) (by omega) d (zig32_lt _ (by omega) (by omega)))) (k'41 (by omega) (by omega) d (by omega))) (all_sd 8 x.posH x.pos (by omega) (by omega) d (by unfold big; omega))) (all_sd 9 x.negH x.neg (by omega) (by omega) d (by unfold big; omega))) (all_vr (by omega) (by omega) d (by omega))) (k'40 (by omega) (by omega) d (Em.mars_lt (by unfold big; omega)))) (all_op (by omega) (by omega) d _ (by omega))) (all_op (by omega) (by omega) d _ (by omega))) (k'41 (by omega) (by omega) d (by omega))
def tellEh (d : Int) (l : List Fld) : Option (List UInt8 → Eh) :=
 match k'1o (fun s => okK s (d - 1)) 1 l with
 | none => none
 | some attrs =>
 match partO (fun s => okB s (d - 1)) noBk 8 l with
 | none => none
 | some pos =>
 match partO (fun s => okB s (d - 1)) noBk 9 l with
 | none => none
 | some neg =>
 match k'1o (fun s => okEm s (d - 1)) 11 l with
 | none => none
 | some exs =>
 some fun u => ⟨attrs, (k'19 l 2).n, (k'19 l 3).n, (k'19 l 4).n, (hasL l 5), (k'19 l 5).n, (hasL l 12), (k'19 l 12).n, (hasL l 13), (k'19 l 13).n, zag32 (k'19 l 6).n, (k'19 l 7).n, pos.1, pos.2, neg.1, neg.2, exs, (k'19 l 10).n % 4294967296, (k'19 l 14).n, u⟩
def okEh (s : List UInt8) (d : Int) : Option Eh := apO (okG tbQ tellEh s d)
theorem Eh.tell {x : Eh} (hwf : x.wf) (h_sum : k'l x.sumH x.sum = true) (h_min : k'l x.minH x.min = true) (h_max : k'l x.maxH x.max = true) (d : Int) : tellEh d x.hF = (
 match mapO (fun s => okK s (d - 1)) (Kv.mars x.attrs) with
 | none => none
 | some attrs =>
 match sdO x.posH x.pos (d - 1) with
 | none => none
 | some pos =>
 match sdO x.negH x.neg (d - 1) with
 | none => none
 | some neg =>
 match mapO (fun s => okEm s (d - 1)) ((x.exs.map Em.mar)) with
 | none => none
 | some exs =>
 some fun u => ⟨attrs, x.start, x.time, x.count, x.sumH, x.sum, x.minH, x.min, x.maxH, x.max, x.scale, x.zero, pos.1, pos.2, neg.1, neg.2, exs, x.flags, x.thr, u⟩) := by
 obtain ⟨w0, w1, w2, w3, w4, w5, w6, w7, w8, w9, w10, w11, w12, w13⟩ := hwf
 have sattrs : sel 1 x.hF = psF 1 (Kv.mars x.attrs) := by unfold Eh.hF; simp [k'b, k'u, k's, k't, k'q, k'p, sel_sd]
 have tattrs : ∀ {α : Type} (ok : List UInt8 → Option α), k'1o ok 1 x.hF = mapO ok (Kv.mars x.attrs) := fun ok => k'2g ok sattrs
 have sstart : sel 2 x.hF = fxF 2 x.start := by unfold Eh.hF; simp [k'b, k'u, k's, k't, k'q, k'p, sel_sd]
 have tstart : (k'19 x.hF 2).n = x.start := k'2c sstart
 have stime : sel 3 x.hF = fxF 3 x.time := by unfold Eh.hF; simp [k'b, k'u, k's, k't, k'q, k'p, sel_sd]
 have ttime : (k'19 x.hF 3).n = x.time := k'2c stime
 have scount : sel 4 x.hF = fxF 4 x.count := by unfold Eh.hF; simp [k'b, k'u, k's, k't, k'q, k'p, sel_sd]
 have tcount : (k'19 x.hF 4).n = x.count := k'2c scount
 have ssum : sel 5 x.hF = opF 5 x.sumH x.sum := by unfold Eh.hF; simp [k'b, k'u, k's, k't, k'q, k'p, sel_sd]
 have tsum := opt_of (by omega) ssum h_sum
 have smin : sel 12 x.hF = opF 12 x.minH x.min := by unfold Eh.hF; simp [k'b, k'u, k's, k't, k'q, k'p, sel_sd]
 have tmin := opt_of (by omega) smin h_min
 have smax : sel 13 x.hF = opF 13 x.maxH x.max := by unfold Eh.hF; simp [k'b, k'u, k's, k't, k'q, k'p, sel_sd]
 have tmax := opt_of (by omega) smax h_max
 have sscale : sel 6 x.hF = vrF 6 (k'2o x.scale) := by unfold Eh.hF; simp [k'b, k'u, k's, k't, k'q, k'p, sel_sd]
 have tscale : zag32 (k'19 x.hF 6).n = x.scale := last_zg w7.1 w7.2 sscale
 have szero : sel 7 x.hF = fxF 7 x.zero := by unfold Eh.hF; simp [k'b, k'u, k's, k't, k'q, k'p, sel_sd]
 have tzero : (k'19 x.hF 7).n = x.zero := k'2c szero
 have spos : sel 8 x.hF = sdF 8 x.posH x.pos := by unfold Eh.hF; simp [k'b, k'u, k's, k't, k'q, k'p, sel_sd]
 have tpos : ∀ e, partO (fun s => okB s e) noBk 8 x.hF = sdO x.posH x.pos e := fun e => part_sd e spos
 have sneg : sel 9 x.hF = sdF 9 x.negH x.neg := by unfold Eh.hF; simp [k'b, k'u, k's, k't, k'q, k'p, sel_sd]
 have tneg : ∀ e, partO (fun s => okB s e) noBk 9 x.hF = sdO x.negH x.neg e := fun e => part_sd e sneg
 have sexs : sel 11 x.hF = psF 11 (x.exs.map Em.mar) := by unfold Eh.hF; simp [k'b, k'u, k's, k't, k'q, k'p, sel_sd]
 have texs : ∀ {α : Type} (ok : List UInt8 → Option α), k'1o ok 11 x.hF = mapO ok ((x.exs.map Em.mar)) := fun ok => k'2g ok sexs
 have sflags : sel 10 x.hF = vrF 10 x.flags := by unfold Eh.hF; simp [k'b, k'u, k's, k't, k'q, k'p, sel_sd]
 have tflags : (k'19 x.hF 10).n % 4294967296 = x.flags := by rw [last_vr sflags]; omega
 have sthr : sel 14 x.hF = fxF 14 x.thr := by unfold Eh.hF; simp [k'b, k'u, k's, k't, k'q, k'p, sel_sd]
 have tthr : (k'19 x.hF 14).n = x.thr := k'2c sthr
 unfold tellEh
 simp only [tattrs, tstart, ttime, tcount, tsum.1, tsum.2, tmin.1, tmin.2, tmax.1, tmax.2, tscale, tzero, tpos, tneg, texs, tflags, tthr]
def Eh.eq (x y : Eh) : Bool := Kv.eqs x.attrs y.attrs && x.start == y.start && x.time == y.time && x.count == y.count && (x.sumH == y.sumH && x.sum == y.sum) && (x.minH == y.minH && x.min == y.min) && (x.maxH == y.maxH && x.max == y.max) && x.scale == y.scale && x.zero == y.zero && x.posH == y.posH && x.pos.eq y.pos && x.negH == y.negH && x.neg.eq y.neg && Em.eqs x.exs y.exs && x.flags == y.flags && x.thr == y.thr && x.u == y.u
def Eh.eqs : List Eh → List Eh → Bool
 | [], [] => true
 | v :: l, w :: r => v.eq w && Eh.eqs l r
 | [], _ :: _ => false
 | _ :: _, [] => false
theorem Eh.eq_self (x : Eh) : x.eq x = true := by unfold Eh.eq; simp [Kv.eqs_self, Bk.eq_self, Em.eqs_self]
theorem Eh.eqs_self : ∀ l : List Eh, Eh.eqs l l = true
 | [] => rfl
 | v :: l => by unfold Eh.eqs; simp [Eh.eq_self v, Eh.eqs_self l]
theorem Eh.eqs_by (a b : List Eh) : Eh.eqs a b = (a.length == b.length && (List.range a.length).all (byI Eh.eq a b)) :=
 k'3i Eh.eq Eh.eqs rfl (fun _ _ _ _ => rfl) (fun _ _ => rfl) (fun _ _ => rfl) a b
end
section
def Eh.d (x : Eh) : D := .agg [slD (Kv.ds x.attrs), .int .u64 x.start, .int .u64 x.time, .int .u64 x.count, .bool x.sumH, .int .u64 x.sum, .bool x.minH, .int .u64 x.min, .bool x.maxH, .int .u64 x.max, .int .i32 x.scale, .int .u64 x.zero, .bool x.posH, .int .i32 x.pos.off, slD (x.pos.cs.map uD), .str x.pos.u, .bool x.negH, .int .i32 x.neg.off, slD (x.neg.cs.map uD), .str x.neg.u, slD (x.exs.map Em.d), .int .u32 x.flags, .int .u64 x.thr, .str x.u]
def Eh.R (x : Eh) (a : D) : Prop := ∃ (z_attrs : Bool) (l_attrs : List D) (z_pos : Bool) (z_neg : Bool) (z_exs : Bool) (l_exs : List D), a = .agg [.sl z_attrs l_attrs, .int .u64 x.start, .int .u64 x.time, .int .u64 x.count, .bool x.sumH, .int .u64 x.sum, .bool x.minH, .int .u64 x.min, .bool x.maxH, .int .u64 x.max, .int .i32 x.scale, .int .u64 x.zero, .bool x.posH, .int .i32 x.pos.off, .sl z_pos (x.pos.cs.map uD), .str x.pos.u, .bool x.negH, .int .i32 x.neg.off, .sl z_neg (x.neg.cs.map uD), .str x.neg.u, .sl z_exs l_exs, .int .u32 x.flags, .int .u64 x.thr, .str x.u] ∧ Kv.Rs x.attrs l_attrs ∧ RsOf Em.R x.exs l_exs
def EhSh (x : D) : Prop := ∃ (a0 : Bool) (a1 : List D) (a2 : Nat) (a3 : Nat) (a4 : Nat) (a5 : Bool) (a6 : Nat) (a7 : Bool) (a8 : Nat) (a9 : Bool) (a10 : Nat) (a11 : Int) (a12 : Nat) (a13 : Bool) (a14 : Int) (a15 : Bool) (a16 : List D) (a17 : List UInt8) (a18 : Bool) (a19 : Int) (a20 : Bool) (a21 : List D) (a22 : List UInt8) (a23 : Bool) (a24 : List D) (a25 : Nat) (a26 : Nat) (a27 : List UInt8), x = .agg [.sl a0 a1, .int .u64 a2, .int .u64 a3, .int .u64 a4, .bool a5, .int .u64 a6, .bool a7, .int .u64 a8, .bool a9, .int .u64 a10, .int .i32 a11, .int .u64 a12, .bool a13, .int .i32 a14, .sl a15 a16, .str a17, .bool a18, .int .i32 a19, .sl a20 a21, .str a22, .sl a23 a24, .int .u32 a25, .int .u64 a26, .str a27]
theorem Eh.R_sh {x : Eh} {a : D} (h : x.R a) : EhSh a := by
 obtain ⟨z_attrs, l_attrs, z_pos, z_neg, z_exs, l_exs, h, -⟩ := h
 exact ⟨_, _, _, _, _, _, _, _, _, _, _, _, _, _, _, _, _, _, _, _, _, _, _, _, _, _, _, _, h⟩
theorem Eh.d_R (x : Eh) : x.R x.d := ⟨_, _, _, _, _, _, rfl, Kv.ds_R _, RsOf.map Em.d_R _⟩
theorem Eh.Rs_sh {l : List Eh} {xs : List D} (h : RsOf Eh.R l xs) : ∀ x ∈ xs, EhSh x := fun x hx => by
 obtain ⟨v, -, r⟩ := h.mem hx
 exact Eh.R_sh r
theorem Eh_May_calls (x : Eh) (xa : D) (d : Int) (hbig : x.sz < big) (hx : x.R xa) (hd1 : -9223372036854775808 ≤ d) (hd2 : d < 9223372036854775808) : k'0 (cx B) 255 [.d xa, .d (.int .i64 d)] [] (.d (.bool (x.may d))) [] := by
 obtain ⟨z_attrs, l_attrs, z_pos, z_neg, z_exs, l_exs, rfl, r_attrs, r_exs⟩ := hx
 unfold Eh.sz at hbig
 unfold Eh.may
 by_cases hd0 : 0 ≤ d
 rotate_left
 ·rw [show decide (0 ≤ d) = false from decide_eq_false hd0]
  refine l_bw Tryz.func255 0 [] ?_
  rw [show decide (d ≥ 0) = false from decide_eq_false hd0]
  exact Z
 have c_u := k'o B 344 tbQ (tbQ_calls B) x.u d (by omega) (by omega) hd2
 have c_opts := MayOpt3_calls B x.sumH x.sum x.minH x.min x.maxH x.max
 have c_pos := maySide_calls B z_pos x.posH x.pos (d - 1) (by omega) (by omega) (by omega)
 have c_neg := maySide_calls B z_neg x.negH x.neg (d - 1) (by omega) (by omega) (by omega)
 have c_exs := All_Em_R B z_exs d (by omega) hd0 hd2 r_exs
 have c_attrs := k'1d B (a := x.attrs) z_attrs (d - 1) (by omega) (by omega) (by omega) r_attrs
 refine l_bw Tryz.func255 0 [] ?_
 rw [show decide (d ≥ 0) = decide (0 ≤ d) from rfl]
 cases e0 : (decide (0 ≤ d))
 ·exact Z
 refine Y ?_
 (first | refine k'1j (.buildSlice (es := [.agg [.bool x.sumH, .int .u64 x.sum], .agg [.bool x.minH, .int .u64 x.min], .agg [.bool x.maxH, .int .u64 x.max]]) rfl rfl rfl rfl rfl rfl (by intro x hx; simp at hx; rcases hx with rfl | rfl | rfl <;> rfl) (by simp) (by decide) (by decide)) rfl rfl rfl rfl ?_ | refine k'1 (.buildSlice (es := [.agg [.bool x.sumH, .int .u64 x.sum], .agg [.bool x.minH, .int .u64 x.min], .agg [.bool x.maxH, .int .u64 x.max]]) rfl rfl rfl rfl rfl rfl (by intro x hx; simp at hx; rcases hx with rfl | rfl | rfl <;> rfl) (by simp) (by decide) (by decide)) rfl rfl ?_)
 refine Y ?_
 refine k'23 [] (c_opts) rfl rfl rfl rfl rfl ?_
 cases e1 : (k'l x.sumH x.sum && k'l x.minH x.min && k'l x.maxH x.max)
 ·exact Z
 refine Y ?_
 rw [k'5 1 (by omega) (by omega) (by omega) hd2]
 refine k'23 [] (c_pos) rfl rfl rfl rfl rfl ?_
 cases e2 : (maySd x.posH x.pos (d - 1))
 ·exact Z
 refine Y ?_
 rw [k'5 1 (by omega) (by omega) (by omega) hd2]
 refine k'23 [] (c_neg) rfl rfl rfl rfl rfl ?_
 cases e3 : (maySd x.negH x.neg (d - 1))
 ·exact Z
 refine Y ?_
 refine k'23 [] (c_exs) rfl rfl rfl rfl rfl ?_
 cases e4 : (x.exs.all fun k => k.may (d - 1))
 ·exact Z
 refine Y ?_
 rw [k'5 1 (by omega) (by omega) (by omega) hd2]
 refine k'23 [] (c_attrs) rfl rfl rfl rfl rfl ?_
 cases e5 : (x.attrs.all fun k => k.may (d - 1))
 ·exact Z
 refine Y ?_
 refine k'a [] (c_u) rfl rfl rfl rfl rfl ?_
 exact Z
theorem All_Eh_calls : AllP B 254 EhSh := All_of B (All1_mk B Tryz.func342) (k'2a B Tryz.func415) (Cont_mk B Tryz.func341) (Allc_mk B Tryz.func254)
theorem All_Eh_R : AllRP B 254 255 Eh.R Eh.sz Eh.may := All_R B (All_Eh_calls B) Eh.Rs_sh (fun x => by unfold Eh.sz; omega) (Eh_May_calls B)
theorem Eh_Marshal_calls (x : Eh) (xa : D) (d : Int) (hbig : x.sz < big) (hwf : x.wf) (hx : x.R xa) (hd1 : -9223372036854775808 ≤ d) (hd2 : d < 9223372036854775808) : k'0 (cx B) 318 [.d xa, .d (.int .i64 d)] [] (if x.may d then .tup [sT x.mar, .d .nili] else .tup [sT [], .d (Er.code 8).d]) [] := by
 have hm := Eh_May_calls B x xa d hbig hx hd1 hd2
 have hlen := Eh.mar_len x
 have hlen : x.mar.length < big := by omega
 obtain ⟨z_attrs, l_attrs, z_pos, z_neg, z_exs, l_exs, rfl, r_attrs, r_exs⟩ := hx
 unfold Eh.sz at hbig
 cases hc : x.may d
 ·rw [hc] at hm
  refine l_bw Tryz.func318 0 [] ?_
  refine k'2 [] (hm) rfl rfl rfl ?_
  exact Z
 rw [hc] at hm
 have hc' := hc
 unfold Eh.may at hc'
 simp only [Bool.and_eq_true, decide_eq_true_eq] at hc'
 obtain ⟨⟨⟨⟨⟨⟨hd, ⟨⟨m_sum, m_min⟩, m_max⟩⟩, m_pos⟩, m_neg⟩, m_exs⟩, m_attrs⟩, hu⟩ := hc'
 obtain ⟨w_attrs, w_start, w_time, w_count, w_sum, w_min, w_max, w_scale, w_zero, w_pos, w_neg, w_exs, w_flags, w_thr⟩ := hwf
 unfold Eh.mar Eh.hb at hlen ⊢
 obtain ⟨a0, ha0, c0⟩ := k'2n B 1 (by omega) (by omega) z_attrs d (by omega) w_attrs m_attrs hd hd2 r_attrs (.nw 71 2) [] k'1z (by simp only [List.length_append, List.length_nil] at hlen ⊢; omega)
 rw [List.nil_append] at c0
 obtain ⟨a1, ha1, c1⟩ := k'1m B 2 x.start (by omega) (by omega) (a0) (psV 1 (Kv.mars x.attrs)) ha0 (by simp only [List.length_append, List.length_nil] at hlen ⊢; omega)
 obtain ⟨a2, ha2, c2⟩ := k'1m B 3 x.time (by omega) (by omega) (a1) (psV 1 (Kv.mars x.attrs) ++ fxV 2 x.start) ha1 (by simp only [List.length_append, List.length_nil] at hlen ⊢; omega)
 obtain ⟨a3, ha3, c3⟩ := k'1m B 4 x.count (by omega) (by omega) (a2) (psV 1 (Kv.mars x.attrs) ++ fxV 2 x.start ++ fxV 3 x.time) ha2 (by simp only [List.length_append, List.length_nil] at hlen ⊢; omega)
 obtain ⟨a4, ha4, c4⟩ := wr_opt B x.sumH 5 x.sum (by omega) (by omega) (a3) (psV 1 (Kv.mars x.attrs) ++ fxV 2 x.start ++ fxV 3 x.time ++ fxV 4 x.count) ha3 (by simp only [List.length_append, List.length_nil] at hlen ⊢; omega)
 obtain ⟨a5, ha5, c5⟩ := wr_var B 6 (k'2o x.scale) (by omega) (by omega) (zig32_lt _ w_scale.1 w_scale.2) (a4) (psV 1 (Kv.mars x.attrs) ++ fxV 2 x.start ++ fxV 3 x.time ++ fxV 4 x.count ++ opV 5 x.sumH x.sum) ha4 (by simp only [List.length_append, List.length_nil] at hlen ⊢; omega)
 obtain ⟨a6, ha6, c6⟩ := k'1m B 7 x.zero (by omega) (by omega) (a5) (psV 1 (Kv.mars x.attrs) ++ fxV 2 x.start ++ fxV 3 x.time ++ fxV 4 x.count ++ opV 5 x.sumH x.sum ++ vrV 6 (k'2o x.scale)) ha5 (by simp only [List.length_append, List.length_nil] at hlen ⊢; omega)
 obtain ⟨a7, ha7, c7⟩ := wr_side B z_pos x.posH x.pos 8 (d - 1) (by omega) (by omega) (by omega) w_pos m_pos (by omega) (by omega) (a6) (psV 1 (Kv.mars x.attrs) ++ fxV 2 x.start ++ fxV 3 x.time ++ fxV 4 x.count ++ opV 5 x.sumH x.sum ++ vrV 6 (k'2o x.scale) ++ fxV 7 x.zero) ha6 (by simp only [List.length_append, List.length_nil] at hlen ⊢; omega)
 obtain ⟨a8, ha8, c8⟩ := wr_side B z_neg x.negH x.neg 9 (d - 1) (by omega) (by omega) (by omega) w_neg m_neg (by omega) (by omega) (a7) (psV 1 (Kv.mars x.attrs) ++ fxV 2 x.start ++ fxV 3 x.time ++ fxV 4 x.count ++ opV 5 x.sumH x.sum ++ vrV 6 (k'2o x.scale) ++ fxV 7 x.zero ++ sdV 8 x.posH x.pos) ha7 (by simp only [List.length_append, List.length_nil] at hlen ⊢; omega)
 obtain ⟨a9, ha9, c9⟩ := wr_var B 10 x.flags (by omega) (by omega) (by omega) (a8) (psV 1 (Kv.mars x.attrs) ++ fxV 2 x.start ++ fxV 3 x.time ++ fxV 4 x.count ++ opV 5 x.sumH x.sum ++ vrV 6 (k'2o x.scale) ++ fxV 7 x.zero ++ sdV 8 x.posH x.pos ++ sdV 9 x.negH x.neg) ha8 (by simp only [List.length_append, List.length_nil] at hlen ⊢; omega)
 obtain ⟨a10, ha10, c10⟩ := Parts_Em_R B 11 (by omega) (by omega) z_exs d (by omega) w_exs m_exs hd hd2 r_exs (a9) (psV 1 (Kv.mars x.attrs) ++ fxV 2 x.start ++ fxV 3 x.time ++ fxV 4 x.count ++ opV 5 x.sumH x.sum ++ vrV 6 (k'2o x.scale) ++ fxV 7 x.zero ++ sdV 8 x.posH x.pos ++ sdV 9 x.negH x.neg ++ vrV 10 x.flags) ha9 (by simp only [List.length_append, List.length_nil] at hlen ⊢; omega)
 obtain ⟨a11, ha11, c11⟩ := wr_opt B x.minH 12 x.min (by omega) (by omega) (a10) (psV 1 (Kv.mars x.attrs) ++ fxV 2 x.start ++ fxV 3 x.time ++ fxV 4 x.count ++ opV 5 x.sumH x.sum ++ vrV 6 (k'2o x.scale) ++ fxV 7 x.zero ++ sdV 8 x.posH x.pos ++ sdV 9 x.negH x.neg ++ vrV 10 x.flags ++ psV 11 (x.exs.map Em.mar)) ha10 (by simp only [List.length_append, List.length_nil] at hlen ⊢; omega)
 obtain ⟨a12, ha12, c12⟩ := wr_opt B x.maxH 13 x.max (by omega) (by omega) (a11) (psV 1 (Kv.mars x.attrs) ++ fxV 2 x.start ++ fxV 3 x.time ++ fxV 4 x.count ++ opV 5 x.sumH x.sum ++ vrV 6 (k'2o x.scale) ++ fxV 7 x.zero ++ sdV 8 x.posH x.pos ++ sdV 9 x.negH x.neg ++ vrV 10 x.flags ++ psV 11 (x.exs.map Em.mar) ++ opV 12 x.minH x.min) ha11 (by simp only [List.length_append, List.length_nil] at hlen ⊢; omega)
 obtain ⟨a13, ha13, c13⟩ := k'1m B 14 x.thr (by omega) (by omega) (a12) (psV 1 (Kv.mars x.attrs) ++ fxV 2 x.start ++ fxV 3 x.time ++ fxV 4 x.count ++ opV 5 x.sumH x.sum ++ vrV 6 (k'2o x.scale) ++ fxV 7 x.zero ++ sdV 8 x.posH x.pos ++ sdV 9 x.negH x.neg ++ vrV 10 x.flags ++ psV 11 (x.exs.map Em.mar) ++ opV 12 x.minH x.min ++ opV 13 x.maxH x.max) ha12 (by simp only [List.length_append, List.length_nil] at hlen ⊢; omega)
 obtain ⟨cu, cs⟩ := k'21 B (s := x.u) ha13 (l := psV 1 (Kv.mars x.attrs) ++ fxV 2 x.start ++ fxV 3 x.time ++ fxV 4 x.count ++ opV 5 x.sumH x.sum ++ vrV 6 (k'2o x.scale) ++ fxV 7 x.zero ++ sdV 8 x.posH x.pos ++ sdV 9 x.negH x.neg ++ vrV 10 x.flags ++ psV 11 (x.exs.map Em.mar) ++ opV 12 x.minH x.min ++ opV 13 x.maxH x.max ++ fxV 14 x.thr) (by simp only [List.length_append] at hlen ⊢; omega)
 generalize psV 1 (Kv.mars x.attrs) ++ fxV 2 x.start ++ fxV 3 x.time ++ fxV 4 x.count ++ opV 5 x.sumH x.sum ++ vrV 6 (k'2o x.scale) ++ fxV 7 x.zero ++ sdV 8 x.posH x.pos ++ sdV 9 x.negH x.neg ++ vrV 10 x.flags ++ psV 11 (x.exs.map Em.mar) ++ opV 12 x.minH x.min ++ opV 13 x.maxH x.max ++ fxV 14 x.thr = o13 at c13 cu cs ⊢
 generalize psV 1 (Kv.mars x.attrs) ++ fxV 2 x.start ++ fxV 3 x.time ++ fxV 4 x.count ++ opV 5 x.sumH x.sum ++ vrV 6 (k'2o x.scale) ++ fxV 7 x.zero ++ sdV 8 x.posH x.pos ++ sdV 9 x.negH x.neg ++ vrV 10 x.flags ++ psV 11 (x.exs.map Em.mar) ++ opV 12 x.minH x.min ++ opV 13 x.maxH x.max = o12 at c12 c13
 generalize psV 1 (Kv.mars x.attrs) ++ fxV 2 x.start ++ fxV 3 x.time ++ fxV 4 x.count ++ opV 5 x.sumH x.sum ++ vrV 6 (k'2o x.scale) ++ fxV 7 x.zero ++ sdV 8 x.posH x.pos ++ sdV 9 x.negH x.neg ++ vrV 10 x.flags ++ psV 11 (x.exs.map Em.mar) ++ opV 12 x.minH x.min = o11 at c11 c12
 generalize psV 1 (Kv.mars x.attrs) ++ fxV 2 x.start ++ fxV 3 x.time ++ fxV 4 x.count ++ opV 5 x.sumH x.sum ++ vrV 6 (k'2o x.scale) ++ fxV 7 x.zero ++ sdV 8 x.posH x.pos ++ sdV 9 x.negH x.neg ++ vrV 10 x.flags ++ psV 11 (x.exs.map Em.mar) = o10 at c10 c11
 generalize psV 1 (Kv.mars x.attrs) ++ fxV 2 x.start ++ fxV 3 x.time ++ fxV 4 x.count ++ opV 5 x.sumH x.sum ++ vrV 6 (k'2o x.scale) ++ fxV 7 x.zero ++ sdV 8 x.posH x.pos ++ sdV 9 x.negH x.neg ++ vrV 10 x.flags = o9 at c9 c10
 generalize psV 1 (Kv.mars x.attrs) ++ fxV 2 x.start ++ fxV 3 x.time ++ fxV 4 x.count ++ opV 5 x.sumH x.sum ++ vrV 6 (k'2o x.scale) ++ fxV 7 x.zero ++ sdV 8 x.posH x.pos ++ sdV 9 x.negH x.neg = o8 at c8 c9
 generalize psV 1 (Kv.mars x.attrs) ++ fxV 2 x.start ++ fxV 3 x.time ++ fxV 4 x.count ++ opV 5 x.sumH x.sum ++ vrV 6 (k'2o x.scale) ++ fxV 7 x.zero ++ sdV 8 x.posH x.pos = o7 at c7 c8
 generalize psV 1 (Kv.mars x.attrs) ++ fxV 2 x.start ++ fxV 3 x.time ++ fxV 4 x.count ++ opV 5 x.sumH x.sum ++ vrV 6 (k'2o x.scale) ++ fxV 7 x.zero = o6 at c6 c7
 generalize psV 1 (Kv.mars x.attrs) ++ fxV 2 x.start ++ fxV 3 x.time ++ fxV 4 x.count ++ opV 5 x.sumH x.sum ++ vrV 6 (k'2o x.scale) = o5 at c5 c6
 generalize psV 1 (Kv.mars x.attrs) ++ fxV 2 x.start ++ fxV 3 x.time ++ fxV 4 x.count ++ opV 5 x.sumH x.sum = o4 at c4 c5
 generalize psV 1 (Kv.mars x.attrs) ++ fxV 2 x.start ++ fxV 3 x.time ++ fxV 4 x.count = o3 at c3 c4
 generalize psV 1 (Kv.mars x.attrs) ++ fxV 2 x.start ++ fxV 3 x.time = o2 at c2 c3
 generalize psV 1 (Kv.mars x.attrs) ++ fxV 2 x.start = o1 at c1 c2
 generalize psV 1 (Kv.mars x.attrs) = o0 at c0 c1
 refine l_bw Tryz.func318 0 [] ?_
 refine l_cw [] (hm) rfl rfl rfl ?_
 refine l_wr [1] (c0) k'1z ha0 ?_
 refine l_wr [1] (c1) ha0 ha1 ?_
 refine l_wr [1] (c2) ha1 ha2 ?_
 refine l_wr [1] (c3) ha2 ha3 ?_
 refine l_wr [1] (c4) ha3 ha4 ?_
 refine l_cw [] (Zig32_calls B x.scale w_scale.1 w_scale.2) rfl rfl rfl ?_
 refine l_wr [1] (c5) ha4 ha5 ?_
 refine l_wr [1] (c6) ha5 ha6 ?_
 rw [k'5 1 (by omega) (by omega) (by omega) hd2]
 refine l_wr [1] (c7) ha6 ha7 ?_
 rw [k'5 1 (by omega) (by omega) (by omega) hd2]
 refine l_wr [1] (c8) ha7 ha8 ?_
 rw [show IntKind.u64.wrap (x.flags : Int) = (x.flags : Int) by rw [IntKind.wrap_u64]; omega]
 refine l_wr [1] (c9) ha8 ha9 ?_
 refine l_wr [1] (c10) ha9 ha10 ?_
 refine l_wr [1] (c11) ha10 ha11 ?_
 refine l_wr [1] (c12) ha11 ha12 ?_
 refine l_wr [1] (c13) ha12 ha13 ?_
 refine l_wr [1] (cu) ha13 (.inl rfl) ?_
 refine k'1f [1] (cs) rfl rfl rfl rfl rfl rfl rfl (by decide) (by simp [k'6 (.inl rfl)]) rfl rfl rfl rfl ?_
 exact Z
theorem Parts_Eh_wr : PartsP B 317 EhSh := k'33 B Tryz.func317
theorem Parts_Eh_R : k'35 B 317 318 Eh.R Eh.sz Eh.wf Eh.may Eh.mar := Parts_R B (Parts_Eh_wr B) Eh.Rs_sh (Eh_Marshal_calls B)
end
