/- Summary: what they are, their bytes, what may be, what is read. -/
import Derived.Test.YtmnllpkbjkenfaaGreatDoorGW
set_option linter.unusedSimpArgs false
set_option linter.unusedVariables false
set_option maxRecDepth 100000
namespace Go.Proofs.YtmnllpkbjkenfaaGreatDoor
open Go Go.Abs
structure Su where
 attrs : List Kv
 start : Nat
 time : Nat
 count : Nat
 sum : Nat
 qs : List Qu
 flags : Nat
 u : List UInt8
def noSu : Su := ⟨[], 0, 0, 0, 0, [], 0, []⟩
def Su.hb (x : Su) : List UInt8 := fxV 2 x.start ++ fxV 3 x.time ++ fxV 4 x.count ++ fxV 5 x.sum ++ psV 6 (x.qs.map Qu.mar) ++ psV 7 (Kv.mars x.attrs) ++ vrV 8 x.flags
def Su.hF (x : Su) : List Fld := fxF 2 x.start ++ fxF 3 x.time ++ fxF 4 x.count ++ fxF 5 x.sum ++ psF 6 (x.qs.map Qu.mar) ++ psF 7 (Kv.mars x.attrs) ++ vrF 8 x.flags
def Su.mar (x : Su) : List UInt8 := x.hb ++ x.u
variable (B : Fr)
def tbS (n k : Nat) : Bool := bif [2, 3, 4, 5].contains n then k == 1 else bif [6, 7].contains n then k == 2 else bif [8].contains n then k == 0 else false
theorem tbS_calls (n k : Nat) : k'1 (cx B) 210 [iT n, iT k] [] (.d (.bool (tbS n k))) [] := by
 refine k'2 (X := cx B) (fn := Tryz.f210) Tryz.func210 rfl rfl rfl rfl rfl 0 [] rfl rfl ?_
 refine Y ?_
 cases h0 : ((n : Int) == 2) with
 | true =>
  have e : n = 2 := by have := eq_of_beq h0; omega
  subst e
  rw [show tbS 2 k = ((k : Int) == 1) from (ibeq k 1).symm]
  exact Z
 | false =>
 have eh0 : n ≠ 2 := by have := ne_of_beq_false h0; omega
 refine Y ?_
 cases h1 : ((n : Int) == 3) with
 | true =>
  have e : n = 3 := by have := eq_of_beq h1; omega
  subst e
  rw [show tbS 3 k = ((k : Int) == 1) from (ibeq k 1).symm]
  exact Z
 | false =>
 have eh1 : n ≠ 3 := by have := ne_of_beq_false h1; omega
 refine Y ?_
 cases h2 : ((n : Int) == 4) with
 | true =>
  have e : n = 4 := by have := eq_of_beq h2; omega
  subst e
  rw [show tbS 4 k = ((k : Int) == 1) from (ibeq k 1).symm]
  exact Z
 | false =>
 have eh2 : n ≠ 4 := by have := ne_of_beq_false h2; omega
 refine Y ?_
 cases h3 : ((n : Int) == 5) with
 | true =>
  have e : n = 5 := by have := eq_of_beq h3; omega
  subst e
  rw [show tbS 5 k = ((k : Int) == 1) from (ibeq k 1).symm]
  exact Z
 | false =>
 have eh3 : n ≠ 5 := by have := ne_of_beq_false h3; omega
 refine Y ?_
 cases h4 : ((n : Int) == 6) with
 | true =>
  have e : n = 6 := by have := eq_of_beq h4; omega
  subst e
  rw [show tbS 6 k = ((k : Int) == 2) from (ibeq k 2).symm]
  exact Z
 | false =>
 have eh4 : n ≠ 6 := by have := ne_of_beq_false h4; omega
 refine Y ?_
 cases h5 : ((n : Int) == 7) with
 | true =>
  have e : n = 7 := by have := eq_of_beq h5; omega
  subst e
  rw [show tbS 7 k = ((k : Int) == 2) from (ibeq k 2).symm]
  exact Z
 | false =>
 have eh5 : n ≠ 7 := by have := ne_of_beq_false h5; omega
 refine Y ?_
 cases h6 : ((n : Int) == 8) with
 | true =>
  have e : n = 8 := by have := eq_of_beq h6; omega
  subst e
  rw [show tbS 8 k = ((k : Int) == 0) from (ibeq k 0).symm]
  exact Z
 | false =>
 have eh6 : n ≠ 8 := by have := ne_of_beq_false h6; omega
 refine Y ?_
 rw [show tbS n k = false from by unfold tbS; simp [eh0, eh1, eh2, eh3, eh4, eh5, eh6]]
 exact k'l rfl
def Su.wf (x : Su) : Prop := (∀ k ∈ x.attrs, k.wf) ∧ x.start < 2 ^ 64 ∧ x.time < 2 ^ 64 ∧ x.count < 2 ^ 64 ∧ x.sum < 2 ^ 64 ∧ (∀ k ∈ x.qs, k.wf) ∧ x.flags < 4294967296
def Su.sz (x : Su) : Nat := 300 + Kv.szs x.attrs + (x.qs.map Qu.sz).sum + x.u.length
def Su.may (x : Su) (d : Int) : Bool := decide (0 ≤ d) && (x.qs.all fun k => k.may (d - 1)) && (x.attrs.all fun k => k.may (d - 1)) && k'2b tbS x.u d
theorem Su.hb_len (x : Su) : x.mar.length + 20 ≤ x.sz := by
 have q0 := k'24 2 x.start
 have q1 := k'24 3 x.time
 have q2 := k'24 4 x.count
 have q3 := k'24 5 x.sum
 have q4 := psV_sum 6 x.qs fun y _ => Qu.mar_len y
 have q5 := Kv.marsP_len 7 x.attrs
 have q6 := vrV_len 8 x.flags
 unfold Su.mar Su.hb Su.sz
 simp only [List.length_append]
 omega
theorem Su.mar_len (x : Su) : x.mar.length + 20 ≤ x.sz := Su.hb_len x
theorem Su.mars_lt {l : List Su} (h : (l.map Su.sz).sum < big) : ∀ s ∈ l.map Su.mar, s.length < 2 ^ 64 := fun s hs => by
 obtain ⟨k, hk, rfl⟩ := List.mem_map.1 hs
 have h1 := Su.mar_len k; have h2 := k'20 (sz := Su.sz) hk
 unfold big at h; omega
theorem Su.all {x : Su} (h1 : x.sz < big) (h2 : x.wf) (d : Int) : all x.hb d = .ok x.hF := by
 unfold Su.sz big at h1
 obtain ⟨w0, w1, w2, w3, w4, w5, w6⟩ := h2
 exact k'4 (k'4 (k'4 (k'4 (k'4 (k'4 (k'44 (by omega) (by omega) d (by omega)) (k'44 (by omega) (by omega) d (by omega))) (k'44 (by omega) (by omega) d (by omega))) (k'44 (by omega) (by omega) d (by omega))) (k'3p (by omega) (by omega) d (Qu.mars_lt (by unfold big; omega)))) (k'3p (by omega) (by omega) d (Kv.mars_lt (by unfold big; omega)))) (all_vr (by omega) (by omega) d (by omega))
theorem Su.inn (x : Su) : inT tbS x.hF = true := by
 unfold Su.hF
 simp only [inT_app, Bool.and_eq_true]
 exact ⟨⟨⟨⟨⟨⟨in_fx 2 x.start rfl, in_fx 3 x.time rfl⟩, in_fx 4 x.count rfl⟩, in_fx 5 x.sum rfl⟩, in_ps 6 _ rfl⟩, in_ps 7 _ rfl⟩, in_vr 8 x.flags rfl⟩
def tellSu (d : Int) (l : List Fld) : Option (List UInt8 → Su) :=
 match k'7 (fun s => okK s (d - 1)) 7 l with
 | none => none
 | some attrs =>
 match k'7 (fun s => okQu s (d - 1)) 6 l with
 | none => none
 | some qs =>
 some fun u => ⟨attrs, (k'8 l 2).n, (k'8 l 3).n, (k'8 l 4).n, (k'8 l 5).n, qs, (k'8 l 8).n % 4294967296, u⟩
def okSu (s : List UInt8) (d : Int) : Option Su := apO (okG tbS tellSu s d)
theorem Su.tell {x : Su} (hwf : x.wf) (d : Int) : tellSu d x.hF = (
 match mapO (fun s => okK s (d - 1)) (Kv.mars x.attrs) with
 | none => none
 | some attrs =>
 match mapO (fun s => okQu s (d - 1)) ((x.qs.map Qu.mar)) with
 | none => none
 | some qs =>
 some fun u => ⟨attrs, x.start, x.time, x.count, x.sum, qs, x.flags, u⟩) := by
 obtain ⟨w0, w1, w2, w3, w4, w5, w6⟩ := hwf
 have sattrs : sel 7 x.hF = psF 7 (Kv.mars x.attrs) := by unfold Su.hF; simp [k'a, k'z, k'q, k'y, k'r, k'n]
 have tattrs : ∀ {α : Type} (ok : List UInt8 → Option α), k'7 ok 7 x.hF = mapO ok (Kv.mars x.attrs) := fun ok => k'1g ok sattrs
 have sstart : sel 2 x.hF = fxF 2 x.start := by unfold Su.hF; simp [k'a, k'z, k'q, k'y, k'r, k'n]
 have tstart : (k'8 x.hF 2).n = x.start := k'21 sstart
 have stime : sel 3 x.hF = fxF 3 x.time := by unfold Su.hF; simp [k'a, k'z, k'q, k'y, k'r, k'n]
 have ttime : (k'8 x.hF 3).n = x.time := k'21 stime
 have scount : sel 4 x.hF = fxF 4 x.count := by unfold Su.hF; simp [k'a, k'z, k'q, k'y, k'r, k'n]
 have tcount : (k'8 x.hF 4).n = x.count := k'21 scount
 have ssum : sel 5 x.hF = fxF 5 x.sum := by unfold Su.hF; simp [k'a, k'z, k'q, k'y, k'r, k'n]
 have tsum : (k'8 x.hF 5).n = x.sum := k'21 ssum
 have sqs : sel 6 x.hF = psF 6 (x.qs.map Qu.mar) := by unfold Su.hF; simp [k'a, k'z, k'q, k'y, k'r, k'n]
 have tqs : ∀ {α : Type} (ok : List UInt8 → Option α), k'7 ok 6 x.hF = mapO ok ((x.qs.map Qu.mar)) := fun ok => k'1g ok sqs
 have sflags : sel 8 x.hF = vrF 8 x.flags := by unfold Su.hF; simp [k'a, k'z, k'q, k'y, k'r, k'n]
 have tflags : (k'8 x.hF 8).n % 4294967296 = x.flags := by rw [last_vr sflags]; omega
 unfold tellSu
 simp only [tattrs, tstart, ttime, tcount, tsum, tqs, tflags]
theorem Su_back : Back okSu Su.mar Su.may (fun x => x.sz < big ∧ x.wf) := by
 intro d x hf hm
 obtain ⟨hbig, hwf⟩ := hf
 have hall := Su.all hbig hwf
 have hwf0 := hwf
 have hbig' := hbig
 unfold Su.sz big at hbig'
 obtain ⟨w_attrs, -, -, -, -, w_qs, -⟩ := hwf
 unfold Su.may at hm
 simp only [Bool.and_eq_true, decide_eq_true_eq] at hm
 obtain ⟨⟨⟨hd, m_qs⟩, m_attrs⟩, hu⟩ := hm
 have htell := fun d => Su.tell (x := x) hwf0 d
 obtain ⟨a_attrs, b_attrs⟩ := Kv_back.list (l := x.attrs) (d := d - 1) (fun k hk => ⟨by have := Kv.sz_mem hk; unfold big; omega, w_attrs k hk⟩) m_attrs
 simp only [← Kv.mars_map] at a_attrs b_attrs
 obtain ⟨a_qs, b_qs⟩ := Qu_back.list (l := x.qs) (d := d - 1) (fun k hk => ⟨by have := k'20 (sz := Qu.sz) hk; unfold big; omega, w_qs k hk⟩) m_qs
 constructor
 ·unfold okSu Su.mar
  rw [k'1a hd (hall d) x.inn hu, htell]
  simp only [a_attrs, a_qs]
  rfl
 ·intro e he hn
  unfold okSu Su.mar
  cases hr : k'2b tbS x.u e with
  | false => rw [k'v (hall e) he hu fun _ => hr]; rfl
  | true =>
   rcases Int.lt_or_le e 0 with h0 | h0
   ·rw [k'2j h0]; rfl
   ·rw [k'1a h0 (hall e) x.inn hr, htell]
    cases h_attrs : (x.attrs.all fun k => k.may (e - 1))
    ·have := b_attrs (e - 1) (by omega) h_attrs
     simp only [this]
     rfl
    cases h_qs : (x.qs.all fun k => k.may (e - 1))
    ·have := b_qs (e - 1) (by omega) h_qs
     simp only [this]
     all_goals (repeat' split) <;> rfl
    exfalso
    unfold Su.may at hn
    simp [h0, hr, h_attrs, h_qs] at hn
def Su.eq (x y : Su) : Bool := Kv.eqs x.attrs y.attrs && x.start == y.start && x.time == y.time && x.count == y.count && x.sum == y.sum && Qu.eqs x.qs y.qs && x.flags == y.flags && x.u == y.u
def Su.eqs : List Su → List Su → Bool
 | [], [] => true
 | v :: l, w :: r => v.eq w && Su.eqs l r
 | [], _ :: _ => false
 | _ :: _, [] => false
theorem Su.eqs_by (a b : List Su) : Su.eqs a b = (a.length == b.length && (List.range a.length).all (byI Su.eq a b)) :=
 k'4k Su.eq Su.eqs rfl (fun _ _ _ _ => rfl) (fun _ _ => rfl) (fun _ _ => rfl) a b
