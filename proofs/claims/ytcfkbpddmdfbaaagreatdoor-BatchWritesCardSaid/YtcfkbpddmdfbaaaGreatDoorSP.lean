/- Quantile: what they are, their bytes, what may be, what is read. -/
import Derived.Test.YtcfkbpddmdfbaaaGreatDoorPAB
import Derived.Test.YtcfkbpddmdfbaaaGreatDoorSD
set_option linter.unusedSimpArgs false
set_option linter.unusedVariables false
set_option maxRecDepth 100000
namespace Go.Proofs.YtcfkbpddmdfbaaaGreatDoor
open Go Go.Abs
variable (B : Fr)
section
structure Qu where
 q : Nat
 v : Nat
 u : List UInt8
def Qu.hb (x : Qu) : List UInt8 := fxV 1 x.q ++ fxV 2 x.v
def Qu.hF (x : Qu) : List Fld := fxF 1 x.q ++ fxF 2 x.v
def Qu.mar (x : Qu) : List UInt8 := x.hb ++ x.u
def tbG (n k : Nat) : Bool := bif [1, 2].contains n then k == 1 else false
theorem tbG_calls (n k : Nat) : k'0 (cx B) 420 [iT n, iT k] [] (.d (.bool (tbG n k))) [] := by
 refine l_bw Tryz.func420 0 [] ?_
 cases h0 : ((n : Int) == 1) with
 | true =>
  have e : n = 1 := by have := eq_of_beq h0; omega
  subst e
  rw [show tbG 1 k = ((k : Int) == 1) from (ibeq k 1).symm]
  exact Z
 | false =>
 have eh0 : n ≠ 1 := by have := ne_of_beq_false h0; omega
 refine Y ?_
 cases h1 : ((n : Int) == 2) with
 | true =>
  have e : n = 2 := by have := eq_of_beq h1; omega
  subst e
  rw [show tbG 2 k = ((k : Int) == 1) from (ibeq k 1).symm]
  exact Z
 | false =>
 have eh1 : n ≠ 2 := by have := ne_of_beq_false h1; omega
 refine Y ?_
 rw [show tbG n k = false from by unfold tbG; simp [eh0, eh1]]
 exact k'i rfl
def Qu.wf (x : Qu) : Prop := x.q < 2 ^ 64 ∧ x.v < 2 ^ 64
def Qu.sz (x : Qu) : Nat := 300 + 0 + x.u.length
def Qu.may (x : Qu) (d : Int) : Bool := decide (0 ≤ d) && k'1a tbG x.u d
theorem Qu.hb_len (x : Qu) : x.mar.length + 20 ≤ x.sz := by
 have q0 := k'2e 1 x.q
 have q1 := k'2e 2 x.v
 unfold Qu.mar Qu.hb Qu.sz
 simp only [List.length_append]
 omega
theorem Qu.mar_len (x : Qu) : x.mar.length + 20 ≤ x.sz := Qu.hb_len x
theorem Qu.mars_lt {l : List Qu} (h : (l.map Qu.sz).sum < big) : ∀ s ∈ l.map Qu.mar, s.length < 2 ^ 64 := fun s hs => by
 obtain ⟨k, hk, rfl⟩ := List.mem_map.1 hs
 have h1 := Qu.mar_len k; have h2 := k'x (sz := Qu.sz) hk
 unfold big at h; omega
theorem Qu.all {x : Qu} (h1 : x.sz < big) (h2 : x.wf) (d : Int) : all x.hb d = .ok x.hF := by
 unfold Qu.sz big at h1
 obtain ⟨w0, w1⟩ := h2
 exact k'4 (k'41 (by omega) (by omega) d (by omega)) (k'41 (by omega) (by omega) d (by omega))
def tellQu (d : Int) (l : List Fld) : Option (List UInt8 → Qu) :=
 some fun u => ⟨(k'19 l 1).n, (k'19 l 2).n, u⟩
def okQu (s : List UInt8) (d : Int) : Option Qu := apO (okG tbG tellQu s d)
theorem Qu.tell {x : Qu} (hwf : x.wf) (d : Int) : tellQu d x.hF = (
 some fun u => ⟨x.q, x.v, u⟩) := by
 obtain ⟨w0, w1⟩ := hwf
 have sq : sel 1 x.hF = fxF 1 x.q := by unfold Qu.hF; simp [k'b, k'u, k's, k't, k'q, k'p]
 have tq : (k'19 x.hF 1).n = x.q := k'2c sq
 have sv : sel 2 x.hF = fxF 2 x.v := by unfold Qu.hF; simp [k'b, k'u, k's, k't, k'q, k'p]
 have tv : (k'19 x.hF 2).n = x.v := k'2c sv
 unfold tellQu
 simp only [tq, tv]
def Qu.eq (x y : Qu) : Bool := x.q == y.q && x.v == y.v && x.u == y.u
def Qu.eqs : List Qu → List Qu → Bool
 | [], [] => true
 | v :: l, w :: r => v.eq w && Qu.eqs l r
 | [], _ :: _ => false
 | _ :: _, [] => false
theorem Qu.eq_self (x : Qu) : x.eq x = true := by unfold Qu.eq; simp [Kv.eqs_self]
theorem Qu.eqs_self : ∀ l : List Qu, Qu.eqs l l = true
 | [] => rfl
 | v :: l => by unfold Qu.eqs; simp [Qu.eq_self v, Qu.eqs_self l]
theorem Qu.eqs_by (a b : List Qu) : Qu.eqs a b = (a.length == b.length && (List.range a.length).all (byI Qu.eq a b)) :=
 k'3i Qu.eq Qu.eqs rfl (fun _ _ _ _ => rfl) (fun _ _ => rfl) (fun _ _ => rfl) a b
end
section
def Qu.d (x : Qu) : D := .agg [.int .u64 x.q, .int .u64 x.v, .str x.u]
def Qu.R (x : Qu) (a : D) : Prop := a = x.d
def QuSh (x : D) : Prop := ∃ (a0 : Nat) (a1 : Nat) (a2 : List UInt8), x = .agg [.int .u64 a0, .int .u64 a1, .str a2]
theorem Qu.R_sh {x : Qu} {a : D} (h : x.R a) : QuSh a := ⟨_, _, _, h⟩
theorem Qu.d_R (x : Qu) : x.R x.d := rfl
theorem Qu.Rs_sh {l : List Qu} {xs : List D} (h : RsOf Qu.R l xs) : ∀ x ∈ xs, QuSh x := fun x hx => by
 obtain ⟨v, -, r⟩ := h.mem hx
 exact Qu.R_sh r
theorem Qu_May_calls (x : Qu) (xa : D) (d : Int) (hbig : x.sz < big) (hx : x.R xa) (hd1 : -9223372036854775808 ≤ d) (hd2 : d < 9223372036854775808) : k'0 (cx B) 348 [.d xa, .d (.int .i64 d)] [] (.d (.bool (x.may d))) [] := by
 obtain rfl := hx
 unfold Qu.sz at hbig
 unfold Qu.may Qu.d
 by_cases hd0 : 0 ≤ d
 rotate_left
 ·rw [show decide (0 ≤ d) = false from decide_eq_false hd0]
  refine l_bw Tryz.func348 0 [] ?_
  rw [show decide (d ≥ 0) = false from decide_eq_false hd0]
  exact Z
 have c_u := k'o B 420 tbG (tbG_calls B) x.u d (by omega) (by omega) hd2
 refine l_bw Tryz.func348 0 [] ?_
 rw [show decide (d ≥ 0) = decide (0 ≤ d) from rfl]
 cases e0 : (decide (0 ≤ d))
 ·exact Z
 refine Y ?_
 refine k'a [] (c_u) rfl rfl rfl rfl rfl ?_
 exact Z
theorem All_Qu_calls : AllP B 347 QuSh := All_of B (All1_mk B Tryz.func419) (k'2a B Tryz.func443) (Cont_mk B Tryz.func418) (Allc_mk B Tryz.func347)
theorem All_Qu_R : AllRP B 347 348 Qu.R Qu.sz Qu.may := All_R B (All_Qu_calls B) Qu.Rs_sh (fun x => by unfold Qu.sz; omega) (Qu_May_calls B)
theorem Qu_Marshal_calls (x : Qu) (xa : D) (d : Int) (hbig : x.sz < big) (hwf : x.wf) (hx : x.R xa) : k'0 (cx B) 398 [.d xa, .d (.int .i64 d)] [] (.tup [sT x.mar, .d .nili]) [] := by
 have hlen := Qu.mar_len x
 have hlen : x.mar.length < big := by omega
 obtain rfl := hx
 unfold Qu.sz at hbig
 obtain ⟨w_q, w_v⟩ := hwf
 unfold Qu.mar Qu.hb at hlen ⊢
 unfold Qu.d
 obtain ⟨a0, ha0, c0⟩ := k'1m B 1 x.q (by omega) (by omega) (.nw 71 2) [] k'1z (by simp only [List.length_append, List.length_nil] at hlen ⊢; omega)
 rw [List.nil_append] at c0
 obtain ⟨a1, ha1, c1⟩ := k'1m B 2 x.v (by omega) (by omega) a0 (fxV 1 x.q) ha0 (by simp only [List.length_append] at hlen ⊢; omega)
 obtain ⟨cu, cs⟩ := k'21 B (s := x.u) ha1 (l := fxV 1 x.q ++ fxV 2 x.v) (by simp only [List.length_append] at hlen ⊢; omega)
 generalize fxV 1 x.q ++ fxV 2 x.v = o1 at c1 cu cs ⊢
 generalize fxV 1 x.q = o0 at c0 c1
 refine l_bw Tryz.func398 0 [] ?_
 refine l_wr [1] (c0) k'1z ha0 ?_
 refine l_wr [1] (c1) ha0 ha1 ?_
 refine l_wr [1] (cu) ha1 (.inl rfl) ?_
 refine k'1f [1] (cs) rfl rfl rfl rfl rfl rfl rfl (by decide) (by simp [k'6 (.inl rfl)]) rfl rfl rfl rfl ?_
 exact Z
theorem Parts_Qu_wr : PartsP B 397 QuSh := k'33 B Tryz.func397
theorem Parts_Qu_R : k'35 B 397 398 Qu.R Qu.sz Qu.wf Qu.may Qu.mar := Parts_R0 B (Parts_Qu_wr B) Qu.Rs_sh fun v x d a b c _ _ _ => Qu_Marshal_calls B v x d a b c
end
section
structure Su where
 attrs : List Kv
 start : Nat
 time : Nat
 count : Nat
 sum : Nat
 qs : List Qu
 flags : Nat
 u : List UInt8
def Su.hb (x : Su) : List UInt8 := fxV 2 x.start ++ fxV 3 x.time ++ fxV 4 x.count ++ fxV 5 x.sum ++ psV 6 (x.qs.map Qu.mar) ++ psV 7 (Kv.mars x.attrs) ++ vrV 8 x.flags
def Su.hF (x : Su) : List Fld := fxF 2 x.start ++ fxF 3 x.time ++ fxF 4 x.count ++ fxF 5 x.sum ++ psF 6 (x.qs.map Qu.mar) ++ psF 7 (Kv.mars x.attrs) ++ vrF 8 x.flags
def Su.mar (x : Su) : List UInt8 := x.hb ++ x.u
def tbS (n k : Nat) : Bool := bif [2, 3, 4, 5].contains n then k == 1 else bif [6, 7].contains n then k == 2 else bif [8].contains n then k == 0 else false
theorem tbS_calls (n k : Nat) : k'0 (cx B) 349 [iT n, iT k] [] (.d (.bool (tbS n k))) [] := by
 refine l_bw Tryz.func349 0 [] ?_
 cases h0 : ((n : Int) == 2) with
 | true =>
  have e : n = 2 := by have := eq_of_beq h0; omega
  subst e
  rw [show tbS 2 k = ((k : Int) == 1) from (ibeq k 1).symm]
  exact Z
 | false =>
 have eh0 : n ≠ 2 := by have := ne_of_beq_false h0; omega
 refine Y ?_
 cases h1 : ((n : Int) == 3) with
 | true =>
  have e : n = 3 := by have := eq_of_beq h1; omega
  subst e
  rw [show tbS 3 k = ((k : Int) == 1) from (ibeq k 1).symm]
  exact Z
 | false =>
 have eh1 : n ≠ 3 := by have := ne_of_beq_false h1; omega
 refine Y ?_
 cases h2 : ((n : Int) == 4) with
 | true =>
  have e : n = 4 := by have := eq_of_beq h2; omega
  subst e
  rw [show tbS 4 k = ((k : Int) == 1) from (ibeq k 1).symm]
  exact Z
 | false =>
 have eh2 : n ≠ 4 := by have := ne_of_beq_false h2; omega
 refine Y ?_
 cases h3 : ((n : Int) == 5) with
 | true =>
  have e : n = 5 := by have := eq_of_beq h3; omega
  subst e
  rw [show tbS 5 k = ((k : Int) == 1) from (ibeq k 1).symm]
  exact Z
 | false =>
 have eh3 : n ≠ 5 := by have := ne_of_beq_false h3; omega
 refine Y ?_
 cases h4 : ((n : Int) == 6) with
 | true =>
  have e : n = 6 := by have := eq_of_beq h4; omega
  subst e
  rw [show tbS 6 k = ((k : Int) == 2) from (ibeq k 2).symm]
  exact Z
 | false =>
 have eh4 : n ≠ 6 := by have := ne_of_beq_false h4; omega
 refine Y ?_
 cases h5 : ((n : Int) == 7) with
 | true =>
  have e : n = 7 := by have := eq_of_beq h5; omega
  subst e
  rw [show tbS 7 k = ((k : Int) == 2) from (ibeq k 2).symm]
  exact Z
 | false =>
 have eh5 : n ≠ 7 := by have := ne_of_beq_false h5; omega
 refine Y ?_
 cases h6 : ((n : Int) == 8) with
 | true =>
  have e : n = 8 := by have := eq_of_beq h6; omega
  subst e
  rw [show tbS 8 k = ((k : Int) == 0) from (ibeq k 0).symm]
  exact Z
 | false =>
 have eh6 : n ≠ 8 := by have := ne_of_beq_false h6; omega
 refine Y ?_
 rw [show tbS n k = false from by unfold tbS; simp [eh0, eh1, eh2, eh3, eh4, eh5, eh6]]
 exact k'i rfl
def Su.wf (x : Su) : Prop := (∀ k ∈ x.attrs, k.wf) ∧ x.start < 2 ^ 64 ∧ x.time < 2 ^ 64 ∧ x.count < 2 ^ 64 ∧ x.sum < 2 ^ 64 ∧ (∀ k ∈ x.qs, k.wf) ∧ x.flags < 4294967296
def Su.sz (x : Su) : Nat := 300 + Kv.szs x.attrs + (x.qs.map Qu.sz).sum + x.u.length
def Su.may (x : Su) (d : Int) : Bool := decide (0 ≤ d) && (x.qs.all fun k => k.may (d - 1)) && (x.attrs.all fun k => k.may (d - 1)) && k'1a tbS x.u d
theorem Su.hb_len (x : Su) : x.mar.length + 20 ≤ x.sz := by
 have q0 := k'2e 2 x.start
 have q1 := k'2e 3 x.time
 have q2 := k'2e 4 x.count
 have q3 := k'2e 5 x.sum
 have q4 := k'1v 6 x.qs fun y _ => Qu.mar_len y
 have q5 := Kv.marsP_len 7 x.attrs
 have q6 := k'3d 8 x.flags
 unfold Su.mar Su.hb Su.sz
 simp only [List.length_append]
 omega
theorem Su.mar_len (x : Su) : x.mar.length + 20 ≤ x.sz := Su.hb_len x
theorem Su.mars_lt {l : List Su} (h : (l.map Su.sz).sum < big) : ∀ s ∈ l.map Su.mar, s.length < 2 ^ 64 := fun s hs => by
 obtain ⟨k, hk, rfl⟩ := List.mem_map.1 hs
 have h1 := Su.mar_len k; have h2 := k'x (sz := Su.sz) hk
 unfold big at h; omega
theorem Su.all {x : Su} (h1 : x.sz < big) (h2 : x.wf) (d : Int) : all x.hb d = .ok x.hF := by
 unfold Su.sz big at h1
 obtain ⟨w0, w1, w2, w3, w4, w5, w6⟩ := h2
 exact k'4 (k'4 (k'4 (k'4 (k'4 (k'4 (k'41 (by omega) (by omega) d (by omega)) (k'41 (by omega) (by omega) d (by omega))) (k'41 (by omega) (by omega) d (by omega))) (k'41 (by omega) (by omega) d (by omega))) (k'40 (by omega) (by omega) d (Qu.mars_lt (by unfold big; omega)))) (k'40 (by omega) (by omega) d (Kv.mars_lt (by unfold big; omega)))) (all_vr (by omega) (by omega) d (by omega))
def tellSu (d : Int) (l : List Fld) : Option (List UInt8 → Su) :=
 match k'1o (fun s => okK s (d - 1)) 7 l with
 | none => none
 | some attrs =>
 match k'1o (fun s => okQu s (d - 1)) 6 l with
 | none => none
 | some qs =>
 some fun u => ⟨attrs, (k'19 l 2).n, (k'19 l 3).n, (k'19 l 4).n, (k'19 l 5).n, qs, (k'19 l 8).n % 4294967296, u⟩
def okSu (s : List UInt8) (d : Int) : Option Su := apO (okG tbS tellSu s d)
theorem Su.tell {x : Su} (hwf : x.wf) (d : Int) : tellSu d x.hF = (
 match mapO (fun s => okK s (d - 1)) (Kv.mars x.attrs) with
 | none => none
 | some attrs =>
 match mapO (fun s => okQu s (d - 1)) ((x.qs.map Qu.mar)) with
 | none => none
 | some qs =>
 some fun u => ⟨attrs, x.start, x.time, x.count, x.sum, qs, x.flags, u⟩) := by
 obtain ⟨w0, w1, w2, w3, w4, w5, w6⟩ := hwf
 have sattrs : sel 7 x.hF = psF 7 (Kv.mars x.attrs) := by unfold Su.hF; simp [k'b, k'u, k's, k't, k'q, k'p]
 have tattrs : ∀ {α : Type} (ok : List UInt8 → Option α), k'1o ok 7 x.hF = mapO ok (Kv.mars x.attrs) := fun ok => k'2g ok sattrs
 have sstart : sel 2 x.hF = fxF 2 x.start := by unfold Su.hF; simp [k'b, k'u, k's, k't, k'q, k'p]
 have tstart : (k'19 x.hF 2).n = x.start := k'2c sstart
 have stime : sel 3 x.hF = fxF 3 x.time := by unfold Su.hF; simp [k'b, k'u, k's, k't, k'q, k'p]
 have ttime : (k'19 x.hF 3).n = x.time := k'2c stime
 have scount : sel 4 x.hF = fxF 4 x.count := by unfold Su.hF; simp [k'b, k'u, k's, k't, k'q, k'p]
 have tcount : (k'19 x.hF 4).n = x.count := k'2c scount
 have ssum : sel 5 x.hF = fxF 5 x.sum := by unfold Su.hF; simp [k'b, k'u, k's, k't, k'q, k'p]
 have tsum : (k'19 x.hF 5).n = x.sum := k'2c ssum
 have sqs : sel 6 x.hF = psF 6 (x.qs.map Qu.mar) := by unfold Su.hF; simp [k'b, k'u, k's, k't, k'q, k'p]
 have tqs : ∀ {α : Type} (ok : List UInt8 → Option α), k'1o ok 6 x.hF = mapO ok ((x.qs.map Qu.mar)) := fun ok => k'2g ok sqs
 have sflags : sel 8 x.hF = vrF 8 x.flags := by unfold Su.hF; simp [k'b, k'u, k's, k't, k'q, k'p]
 have tflags : (k'19 x.hF 8).n % 4294967296 = x.flags := by rw [last_vr sflags]; omega
 unfold tellSu
 simp only [tattrs, tstart, ttime, tcount, tsum, tqs, tflags]
def Su.eq (x y : Su) : Bool := Kv.eqs x.attrs y.attrs && x.start == y.start && x.time == y.time && x.count == y.count && x.sum == y.sum && Qu.eqs x.qs y.qs && x.flags == y.flags && x.u == y.u
def Su.eqs : List Su → List Su → Bool
 | [], [] => true
 | v :: l, w :: r => v.eq w && Su.eqs l r
 | [], _ :: _ => false
 | _ :: _, [] => false
theorem Su.eq_self (x : Su) : x.eq x = true := by unfold Su.eq; simp [Kv.eqs_self, Qu.eqs_self]
theorem Su.eqs_self : ∀ l : List Su, Su.eqs l l = true
 | [] => rfl
 | v :: l => by unfold Su.eqs; simp [Su.eq_self v, Su.eqs_self l]
theorem Su.eqs_by (a b : List Su) : Su.eqs a b = (a.length == b.length && (List.range a.length).all (byI Su.eq a b)) :=
 k'3i Su.eq Su.eqs rfl (fun _ _ _ _ => rfl) (fun _ _ => rfl) (fun _ _ => rfl) a b
end
