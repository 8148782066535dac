/- Exemplar: what they are, their bytes, what may be, what is read. -/
import Derived.Test.YtpioginipokfiaaGreatDoorPAB
set_option linter.unusedSimpArgs false
set_option linter.unusedVariables false
set_option maxRecDepth 100000
namespace Go.Proofs.YtpioginipokfiaaGreatDoor
open Go Go.Abs
structure Em where
 attrs : List Kv
 time : Nat
 kind : Int
 n : Nat
 span : List UInt8
 trace : List UInt8
 u : List UInt8
def noEm : Em := ⟨[], 0, 0, 0, [], [], []⟩
def Em.hb (x : Em) : List UInt8 := fxV 2 x.time ++ opV 3 (x.kind == 1) x.n ++ txV 4 x.span ++ txV 5 x.trace ++ opV 6 (x.kind == 2) x.n ++ psV 7 (Kv.mars x.attrs)
def Em.hF (x : Em) : List Fld := fxF 2 x.time ++ opF 3 (x.kind == 1) x.n ++ txF 4 x.span ++ txF 5 x.trace ++ opF 6 (x.kind == 2) x.n ++ psF 7 (Kv.mars x.attrs)
def Em.mar (x : Em) : List UInt8 := x.hb ++ x.u
variable (B : Fr)
def tbE (n k : Nat) : Bool := bif [2, 3, 6].contains n then k == 1 else bif [4, 5, 7].contains n then k == 2 else false
theorem tbE_calls (n k : Nat) : k'0 (cx B) 69 [iT n, iT k] [] (.d (.bool (tbE n k))) [] := by
 refine l_bw Tryz.func69 0 [] ?_
 cases h0 : ((n : Int) == 2) with
 | true =>
  have e : n = 2 := by have := eq_of_beq h0; omega
  subst e
  rw [show tbE 2 k = ((k : Int) == 1) from (ibeq k 1).symm]
  exact Z
 | false =>
 have eh0 : n ≠ 2 := by have := ne_of_beq_false h0; omega
 refine Y ?_
 cases h1 : ((n : Int) == 3) with
 | true =>
  have e : n = 3 := by have := eq_of_beq h1; omega
  subst e
  rw [show tbE 3 k = ((k : Int) == 1) from (ibeq k 1).symm]
  exact Z
 | false =>
 have eh1 : n ≠ 3 := by have := ne_of_beq_false h1; omega
 refine Y ?_
 cases h2 : ((n : Int) == 6) with
 | true =>
  have e : n = 6 := by have := eq_of_beq h2; omega
  subst e
  rw [show tbE 6 k = ((k : Int) == 1) from (ibeq k 1).symm]
  exact Z
 | false =>
 have eh2 : n ≠ 6 := by have := ne_of_beq_false h2; omega
 refine Y ?_
 cases h3 : ((n : Int) == 4) with
 | true =>
  have e : n = 4 := by have := eq_of_beq h3; omega
  subst e
  rw [show tbE 4 k = ((k : Int) == 2) from (ibeq k 2).symm]
  exact Z
 | false =>
 have eh3 : n ≠ 4 := by have := ne_of_beq_false h3; omega
 refine Y ?_
 cases h4 : ((n : Int) == 5) with
 | true =>
  have e : n = 5 := by have := eq_of_beq h4; omega
  subst e
  rw [show tbE 5 k = ((k : Int) == 2) from (ibeq k 2).symm]
  exact Z
 | false =>
 have eh4 : n ≠ 5 := by have := ne_of_beq_false h4; omega
 refine Y ?_
 cases h5 : ((n : Int) == 7) with
 | true =>
  have e : n = 7 := by have := eq_of_beq h5; omega
  subst e
  rw [show tbE 7 k = ((k : Int) == 2) from (ibeq k 2).symm]
  exact Z
 | false =>
 have eh5 : n ≠ 7 := by have := ne_of_beq_false h5; omega
 refine Y ?_
 rw [show tbE n k = false from by unfold tbE; simp [eh0, eh1, eh2, eh3, eh4, eh5]]
 exact k'i rfl
def Em.wf (x : Em) : Prop := (∀ k ∈ x.attrs, k.wf) ∧ x.time < 2 ^ 64 ∧ x.n < 2 ^ 64
def Em.sz (x : Em) : Nat := 300 + Kv.szs x.attrs + x.span.length + x.trace.length + x.u.length
def Em.may (x : Em) (d : Int) : Bool := decide (0 ≤ d) && mayNum x.kind x.n && (x.attrs.all fun k => k.may (d - 1)) && restB tbE x.u d
theorem Em.hb_len (x : Em) : x.mar.length + 20 ≤ x.sz := by
 have q0 := fxV_len 2 x.time
 have q1 := opV_len 3 (x.kind == 1) x.n
 have q2 := txV_len 4 x.span
 have q3 := txV_len 5 x.trace
 have q4 := opV_len 6 (x.kind == 2) x.n
 have q5 := Kv.marsP_len 7 x.attrs
 unfold Em.mar Em.hb Em.sz
 simp only [List.length_append]
 omega
theorem Em.mar_len (x : Em) : x.mar.length + 20 ≤ x.sz := Em.hb_len x
theorem Em.mars_lt {l : List Em} (h : (l.map Em.sz).sum < big) : ∀ s ∈ l.map Em.mar, s.length < 2 ^ 64 := fun s hs => by
 obtain ⟨k, hk, rfl⟩ := List.mem_map.1 hs
 have h1 := Em.mar_len k; have h2 := sum_mem (sz := Em.sz) hk
 unfold big at h; omega
theorem Em.all {x : Em} (h1 : x.sz < big) (h2 : x.wf) (d : Int) : all x.hb d = .ok x.hF := by
 unfold Em.sz big at h1
 obtain ⟨w0, w1, w2⟩ := h2
 exact k'4 (k'4 (k'4 (k'4 (k'4 (all_fx (by omega) (by omega) d (by omega)) (all_op (by omega) (by omega) d _ (by omega))) (all_tx (by omega) (by omega) d (by omega))) (all_tx (by omega) (by omega) d (by omega))) (all_op (by omega) (by omega) d _ (by omega))) (all_ps (by omega) (by omega) d (Kv.mars_lt (by unfold big; omega)))
def tellEm (d : Int) (l : List Fld) : Option (List UInt8 → Em) :=
 match k'a (fun s => okK s (d - 1)) 7 l with
 | none => none
 | some attrs =>
 some fun u => ⟨attrs, (k'e l 2).n, ((numKN 3 6 (oneF [3, 6] l)).1 : Int), (numKN 3 6 (oneF [3, 6] l)).2, (k'e l 4).s, (k'e l 5).s, u⟩
def okEm (s : List UInt8) (d : Int) : Option Em := apO (okG tbE tellEm s d)
theorem Em.tell {x : Em} (hwf : x.wf) (hnum : mayNum x.kind x.n = true) (d : Int) : tellEm d x.hF = (
 match mapO (fun s => okK s (d - 1)) (Kv.mars x.attrs) with
 | none => none
 | some attrs =>
 some fun u => ⟨attrs, x.time, x.kind, x.n, x.span, x.trace, u⟩) := by
 obtain ⟨w0, w1, w2⟩ := hwf
 have sattrs : sel 7 x.hF = psF 7 (Kv.mars x.attrs) := by unfold Em.hF; simp [k'z, k'2f, k'2d, k'2e, k'28, k'1x]
 have tattrs : ∀ {α : Type} (ok : List UInt8 → Option α), k'a ok 7 x.hF = mapO ok (Kv.mars x.attrs) := fun ok => parts_of ok sattrs
 have stime : sel 2 x.hF = fxF 2 x.time := by unfold Em.hF; simp [k'z, k'2f, k'2d, k'2e, k'28, k'1x]
 have ttime : (k'e x.hF 2).n = x.time := last_fx stime
 have skn : selN [3, 6] x.hF = opF 3 (x.kind == 1) x.n ++ opF 6 (x.kind == 2) x.n := by unfold Em.hF; simp [selN_app, selN_fx, selN_vr, selN_op, selN_tx, selN_ps]
 have tkn : numKN 3 6 (oneF [3, 6] x.hF) = (x.kind.toNat, x.n) := by rw [← oneF_selN, skn]; exact tell_num (by omega) (by omega) (by omega) hnum
 have kkn : (x.kind.toNat : Int) = x.kind := by unfold mayNum at hnum; simp at hnum; omega
 have sspan : sel 4 x.hF = txF 4 x.span := by unfold Em.hF; simp [k'z, k'2f, k'2d, k'2e, k'28, k'1x]
 have tspan : (k'e x.hF 4).s = x.span := last_tx sspan
 have strace : sel 5 x.hF = txF 5 x.trace := by unfold Em.hF; simp [k'z, k'2f, k'2d, k'2e, k'28, k'1x]
 have ttrace : (k'e x.hF 5).s = x.trace := last_tx strace
 unfold tellEm
 simp only [tattrs, ttime, tkn, kkn, tspan, ttrace]
def Em.eq (x y : Em) : Bool := Kv.eqs x.attrs y.attrs && x.time == y.time && x.kind == y.kind && x.n == y.n && x.span == y.span && x.trace == y.trace && x.u == y.u
def Em.eqs : List Em → List Em → Bool
 | [], [] => true
 | v :: l, w :: r => v.eq w && Em.eqs l r
 | [], _ :: _ => false
 | _ :: _, [] => false
theorem Em.eqs_by (a b : List Em) : Em.eqs a b = (a.length == b.length && (List.range a.length).all (byI Em.eq a b)) :=
 byI_all Em.eq Em.eqs rfl (fun _ _ _ _ => rfl) (fun _ _ => rfl) (fun _ _ => rfl) a b
