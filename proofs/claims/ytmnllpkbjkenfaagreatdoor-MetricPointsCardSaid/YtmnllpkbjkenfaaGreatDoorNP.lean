/- Number: what they are, their bytes, what may be, what is read. -/
import Derived.Test.YtmnllpkbjkenfaaGreatDoorEW
set_option linter.unusedSimpArgs false
set_option linter.unusedVariables false
set_option maxRecDepth 100000
namespace Go.Proofs.YtmnllpkbjkenfaaGreatDoor
open Go Go.Abs
structure Nb where
 attrs : List Kv
 start : Nat
 time : Nat
 kind : Int
 n : Nat
 exs : List Em
 flags : Nat
 u : List UInt8
def noNb : Nb := ⟨[], 0, 0, 0, 0, [], 0, []⟩
def Nb.hb (x : Nb) : List UInt8 := fxV 2 x.start ++ fxV 3 x.time ++ opV 4 (x.kind == 1) x.n ++ psV 5 (x.exs.map Em.mar) ++ opV 6 (x.kind == 2) x.n ++ psV 7 (Kv.mars x.attrs) ++ vrV 8 x.flags
def Nb.hF (x : Nb) : List Fld := fxF 2 x.start ++ fxF 3 x.time ++ opF 4 (x.kind == 1) x.n ++ psF 5 (x.exs.map Em.mar) ++ opF 6 (x.kind == 2) x.n ++ psF 7 (Kv.mars x.attrs) ++ vrF 8 x.flags
def Nb.mar (x : Nb) : List UInt8 := x.hb ++ x.u
variable (B : Fr)
def tbN (n k : Nat) : Bool := bif [2, 3, 4, 6].contains n then k == 1 else bif [5, 7].contains n then k == 2 else bif [8].contains n then k == 0 else false
theorem tbN_calls (n k : Nat) : k'1 (cx B) 196 [iT n, iT k] [] (.d (.bool (tbN n k))) [] := by
 refine k'2 (X := cx B) (fn := Tryz.f196) Tryz.func196 rfl rfl rfl rfl rfl 0 [] rfl rfl ?_
 refine Y ?_
 cases h0 : ((n : Int) == 2) with
 | true =>
  have e : n = 2 := by have := eq_of_beq h0; omega
  subst e
  rw [show tbN 2 k = ((k : Int) == 1) from (ibeq k 1).symm]
  exact Z
 | false =>
 have eh0 : n ≠ 2 := by have := ne_of_beq_false h0; omega
 refine Y ?_
 cases h1 : ((n : Int) == 3) with
 | true =>
  have e : n = 3 := by have := eq_of_beq h1; omega
  subst e
  rw [show tbN 3 k = ((k : Int) == 1) from (ibeq k 1).symm]
  exact Z
 | false =>
 have eh1 : n ≠ 3 := by have := ne_of_beq_false h1; omega
 refine Y ?_
 cases h2 : ((n : Int) == 4) with
 | true =>
  have e : n = 4 := by have := eq_of_beq h2; omega
  subst e
  rw [show tbN 4 k = ((k : Int) == 1) from (ibeq k 1).symm]
  exact Z
 | false =>
 have eh2 : n ≠ 4 := by have := ne_of_beq_false h2; omega
 refine Y ?_
 cases h3 : ((n : Int) == 6) with
 | true =>
  have e : n = 6 := by have := eq_of_beq h3; omega
  subst e
  rw [show tbN 6 k = ((k : Int) == 1) from (ibeq k 1).symm]
  exact Z
 | false =>
 have eh3 : n ≠ 6 := by have := ne_of_beq_false h3; omega
 refine Y ?_
 cases h4 : ((n : Int) == 5) with
 | true =>
  have e : n = 5 := by have := eq_of_beq h4; omega
  subst e
  rw [show tbN 5 k = ((k : Int) == 2) from (ibeq k 2).symm]
  exact Z
 | false =>
 have eh4 : n ≠ 5 := by have := ne_of_beq_false h4; omega
 refine Y ?_
 cases h5 : ((n : Int) == 7) with
 | true =>
  have e : n = 7 := by have := eq_of_beq h5; omega
  subst e
  rw [show tbN 7 k = ((k : Int) == 2) from (ibeq k 2).symm]
  exact Z
 | false =>
 have eh5 : n ≠ 7 := by have := ne_of_beq_false h5; omega
 refine Y ?_
 cases h6 : ((n : Int) == 8) with
 | true =>
  have e : n = 8 := by have := eq_of_beq h6; omega
  subst e
  rw [show tbN 8 k = ((k : Int) == 0) from (ibeq k 0).symm]
  exact Z
 | false =>
 have eh6 : n ≠ 8 := by have := ne_of_beq_false h6; omega
 refine Y ?_
 rw [show tbN n k = false from by unfold tbN; simp [eh0, eh1, eh2, eh3, eh4, eh5, eh6]]
 exact k'l rfl
def Nb.wf (x : Nb) : Prop := (∀ k ∈ x.attrs, k.wf) ∧ x.start < 2 ^ 64 ∧ x.time < 2 ^ 64 ∧ x.n < 2 ^ 64 ∧ (∀ k ∈ x.exs, k.wf) ∧ x.flags < 4294967296
def Nb.sz (x : Nb) : Nat := 300 + Kv.szs x.attrs + (x.exs.map Em.sz).sum + x.u.length
def Nb.may (x : Nb) (d : Int) : Bool := decide (0 ≤ d) && mayNum x.kind x.n && (x.exs.all fun k => k.may (d - 1)) && (x.attrs.all fun k => k.may (d - 1)) && k'2b tbN x.u d
theorem Nb.hb_len (x : Nb) : x.mar.length + 20 ≤ x.sz := by
 have q0 := k'24 2 x.start
 have q1 := k'24 3 x.time
 have q2 := k'4h 4 (x.kind == 1) x.n
 have q3 := psV_sum 5 x.exs fun y _ => Em.mar_len y
 have q4 := k'4h 6 (x.kind == 2) x.n
 have q5 := Kv.marsP_len 7 x.attrs
 have q6 := vrV_len 8 x.flags
 unfold Nb.mar Nb.hb Nb.sz
 simp only [List.length_append]
 omega
theorem Nb.mar_len (x : Nb) : x.mar.length + 20 ≤ x.sz := Nb.hb_len x
theorem Nb.mars_lt {l : List Nb} (h : (l.map Nb.sz).sum < big) : ∀ s ∈ l.map Nb.mar, s.length < 2 ^ 64 := fun s hs => by
 obtain ⟨k, hk, rfl⟩ := List.mem_map.1 hs
 have h1 := Nb.mar_len k; have h2 := k'20 (sz := Nb.sz) hk
 unfold big at h; omega
theorem Nb.all {x : Nb} (h1 : x.sz < big) (h2 : x.wf) (d : Int) : all x.hb d = .ok x.hF := by
 unfold Nb.sz big at h1
 obtain ⟨w0, w1, w2, w3, w4, w5⟩ := h2
 exact k'4 (k'4 (k'4 (k'4 (k'4 (k'4 (k'44 (by omega) (by omega) d (by omega)) (k'44 (by omega) (by omega) d (by omega))) (all_op (by omega) (by omega) d _ (by omega))) (k'3p (by omega) (by omega) d (Em.mars_lt (by unfold big; omega)))) (all_op (by omega) (by omega) d _ (by omega))) (k'3p (by omega) (by omega) d (Kv.mars_lt (by unfold big; omega)))) (all_vr (by omega) (by omega) d (by omega))
theorem Nb.inn (x : Nb) : inT tbN x.hF = true := by
 unfold Nb.hF
 simp only [inT_app, Bool.and_eq_true]
 exact ⟨⟨⟨⟨⟨⟨in_fx 2 x.start rfl, in_fx 3 x.time rfl⟩, in_op 4 x.n _ rfl⟩, in_ps 5 _ rfl⟩, in_op 6 x.n _ rfl⟩, in_ps 7 _ rfl⟩, in_vr 8 x.flags rfl⟩
def tellNb (d : Int) (l : List Fld) : Option (List UInt8 → Nb) :=
 match k'7 (fun s => okK s (d - 1)) 7 l with
 | none => none
 | some attrs =>
 match k'7 (fun s => okEm s (d - 1)) 5 l with
 | none => none
 | some exs =>
 some fun u => ⟨attrs, (k'8 l 2).n, (k'8 l 3).n, ((numKN 4 6 (oneF [4, 6] l)).1 : Int), (numKN 4 6 (oneF [4, 6] l)).2, exs, (k'8 l 8).n % 4294967296, u⟩
def okNb (s : List UInt8) (d : Int) : Option Nb := apO (okG tbN tellNb s d)
theorem Nb.tell {x : Nb} (hwf : x.wf) (hnum : mayNum x.kind x.n = true) (d : Int) : tellNb d x.hF = (
 match mapO (fun s => okK s (d - 1)) (Kv.mars x.attrs) with
 | none => none
 | some attrs =>
 match mapO (fun s => okEm s (d - 1)) ((x.exs.map Em.mar)) with
 | none => none
 | some exs =>
 some fun u => ⟨attrs, x.start, x.time, x.kind, x.n, exs, x.flags, u⟩) := by
 obtain ⟨w0, w1, w2, w3, w4, w5⟩ := hwf
 have sattrs : sel 7 x.hF = psF 7 (Kv.mars x.attrs) := by unfold Nb.hF; simp [k'a, k'z, k'q, k'y, k'r, k'n]
 have tattrs : ∀ {α : Type} (ok : List UInt8 → Option α), k'7 ok 7 x.hF = mapO ok (Kv.mars x.attrs) := fun ok => k'1g ok sattrs
 have sstart : sel 2 x.hF = fxF 2 x.start := by unfold Nb.hF; simp [k'a, k'z, k'q, k'y, k'r, k'n]
 have tstart : (k'8 x.hF 2).n = x.start := k'21 sstart
 have stime : sel 3 x.hF = fxF 3 x.time := by unfold Nb.hF; simp [k'a, k'z, k'q, k'y, k'r, k'n]
 have ttime : (k'8 x.hF 3).n = x.time := k'21 stime
 have skn : selN [4, 6] x.hF = opF 4 (x.kind == 1) x.n ++ opF 6 (x.kind == 2) x.n := by unfold Nb.hF; simp [selN_app, selN_fx, selN_vr, selN_op, selN_tx, selN_ps]
 have tkn : numKN 4 6 (oneF [4, 6] x.hF) = (x.kind.toNat, x.n) := by rw [← oneF_selN, skn]; exact tell_num (by omega) (by omega) (by omega) hnum
 have kkn : (x.kind.toNat : Int) = x.kind := by unfold mayNum at hnum; simp at hnum; omega
 have sexs : sel 5 x.hF = psF 5 (x.exs.map Em.mar) := by unfold Nb.hF; simp [k'a, k'z, k'q, k'y, k'r, k'n]
 have texs : ∀ {α : Type} (ok : List UInt8 → Option α), k'7 ok 5 x.hF = mapO ok ((x.exs.map Em.mar)) := fun ok => k'1g ok sexs
 have sflags : sel 8 x.hF = vrF 8 x.flags := by unfold Nb.hF; simp [k'a, k'z, k'q, k'y, k'r, k'n]
 have tflags : (k'8 x.hF 8).n % 4294967296 = x.flags := by rw [last_vr sflags]; omega
 unfold tellNb
 simp only [tattrs, tstart, ttime, tkn, kkn, texs, tflags]
theorem Nb_back : Back okNb Nb.mar Nb.may (fun x => x.sz < big ∧ x.wf) := by
 intro d x hf hm
 obtain ⟨hbig, hwf⟩ := hf
 have hall := Nb.all hbig hwf
 have hwf0 := hwf
 have hbig' := hbig
 unfold Nb.sz big at hbig'
 obtain ⟨w_attrs, -, -, -, w_exs, -⟩ := hwf
 unfold Nb.may at hm
 simp only [Bool.and_eq_true, decide_eq_true_eq] at hm
 obtain ⟨⟨⟨⟨hd, m_kn⟩, m_exs⟩, m_attrs⟩, hu⟩ := hm
 have htell := fun d => Nb.tell (x := x) hwf0 m_kn d
 obtain ⟨a_attrs, b_attrs⟩ := Kv_back.list (l := x.attrs) (d := d - 1) (fun k hk => ⟨by have := Kv.sz_mem hk; unfold big; omega, w_attrs k hk⟩) m_attrs
 simp only [← Kv.mars_map] at a_attrs b_attrs
 obtain ⟨a_exs, b_exs⟩ := Em_back.list (l := x.exs) (d := d - 1) (fun k hk => ⟨by have := k'20 (sz := Em.sz) hk; unfold big; omega, w_exs k hk⟩) m_exs
 constructor
 ·unfold okNb Nb.mar
  rw [k'1a hd (hall d) x.inn hu, htell]
  simp only [a_attrs, a_exs]
  rfl
 ·intro e he hn
  unfold okNb Nb.mar
  cases hr : k'2b tbN x.u e with
  | false => rw [k'v (hall e) he hu fun _ => hr]; rfl
  | true =>
   rcases Int.lt_or_le e 0 with h0 | h0
   ·rw [k'2j h0]; rfl
   ·rw [k'1a h0 (hall e) x.inn hr, htell]
    cases h_attrs : (x.attrs.all fun k => k.may (e - 1))
    ·have := b_attrs (e - 1) (by omega) h_attrs
     simp only [this]
     rfl
    cases h_exs : (x.exs.all fun k => k.may (e - 1))
    ·have := b_exs (e - 1) (by omega) h_exs
     simp only [this]
     all_goals (repeat' split) <;> rfl
    exfalso
    unfold Nb.may at hn
    simp [h0, hr, m_kn, h_attrs, h_exs] at hn
def Nb.eq (x y : Nb) : Bool := Kv.eqs x.attrs y.attrs && x.start == y.start && x.time == y.time && x.kind == y.kind && x.n == y.n && Em.eqs x.exs y.exs && x.flags == y.flags && x.u == y.u
def Nb.eqs : List Nb → List Nb → Bool
 | [], [] => true
 | v :: l, w :: r => v.eq w && Nb.eqs l r
 | [], _ :: _ => false
 | _ :: _, [] => false
theorem Nb.eqs_by (a b : List Nb) : Nb.eqs a b = (a.length == b.length && (List.range a.length).all (byI Nb.eq a b)) :=
 k'4k Nb.eq Nb.eqs rfl (fun _ _ _ _ => rfl) (fun _ _ => rfl) (fun _ _ => rfl) a b
