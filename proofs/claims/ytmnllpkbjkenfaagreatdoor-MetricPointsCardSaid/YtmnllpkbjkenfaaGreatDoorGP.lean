/- Quantile: what they are, their bytes, what may be, what is read. -/
import Derived.Test.YtmnllpkbjkenfaaGreatDoorPAB
set_option linter.unusedSimpArgs false
set_option linter.unusedVariables false
set_option maxRecDepth 100000
namespace Go.Proofs.YtmnllpkbjkenfaaGreatDoor
open Go Go.Abs
structure Qu where
 q : Nat
 v : Nat
 u : List UInt8
def noQu : Qu := ⟨0, 0, []⟩
def Qu.hb (x : Qu) : List UInt8 := fxV 1 x.q ++ fxV 2 x.v
def Qu.hF (x : Qu) : List Fld := fxF 1 x.q ++ fxF 2 x.v
def Qu.mar (x : Qu) : List UInt8 := x.hb ++ x.u
variable (B : Fr)
def tbG (n k : Nat) : Bool := bif [1, 2].contains n then k == 1 else false
theorem tbG_calls (n k : Nat) : k'1 (cx B) 295 [iT n, iT k] [] (.d (.bool (tbG n k))) [] := by
 refine k'2 (X := cx B) (fn := Tryz.f295) Tryz.func295 rfl rfl rfl rfl rfl 0 [] rfl rfl ?_
 refine Y ?_
 cases h0 : ((n : Int) == 1) with
 | true =>
  have e : n = 1 := by have := eq_of_beq h0; omega
  subst e
  rw [show tbG 1 k = ((k : Int) == 1) from (ibeq k 1).symm]
  exact Z
 | false =>
 have eh0 : n ≠ 1 := by have := ne_of_beq_false h0; omega
 refine Y ?_
 cases h1 : ((n : Int) == 2) with
 | true =>
  have e : n = 2 := by have := eq_of_beq h1; omega
  subst e
  rw [show tbG 2 k = ((k : Int) == 1) from (ibeq k 1).symm]
  exact Z
 | false =>
 have eh1 : n ≠ 2 := by have := ne_of_beq_false h1; omega
 refine Y ?_
 rw [show tbG n k = false from by unfold tbG; simp [eh0, eh1]]
 exact k'l rfl
def Qu.wf (x : Qu) : Prop := x.q < 2 ^ 64 ∧ x.v < 2 ^ 64
def Qu.sz (x : Qu) : Nat := 300 + 0 + x.u.length
def Qu.may (x : Qu) (d : Int) : Bool := decide (0 ≤ d) && k'2b tbG x.u d
theorem Qu.hb_len (x : Qu) : x.mar.length + 20 ≤ x.sz := by
 have q0 := k'24 1 x.q
 have q1 := k'24 2 x.v
 unfold Qu.mar Qu.hb Qu.sz
 simp only [List.length_append]
 omega
theorem Qu.mar_len (x : Qu) : x.mar.length + 20 ≤ x.sz := Qu.hb_len x
theorem Qu.mars_lt {l : List Qu} (h : (l.map Qu.sz).sum < big) : ∀ s ∈ l.map Qu.mar, s.length < 2 ^ 64 := fun s hs => by
 obtain ⟨k, hk, rfl⟩ := List.mem_map.1 hs
 have h1 := Qu.mar_len k; have h2 := k'20 (sz := Qu.sz) hk
 unfold big at h; omega
theorem Qu.all {x : Qu} (h1 : x.sz < big) (h2 : x.wf) (d : Int) : all x.hb d = .ok x.hF := by
 unfold Qu.sz big at h1
 obtain ⟨w0, w1⟩ := h2
 exact k'4 (k'44 (by omega) (by omega) d (by omega)) (k'44 (by omega) (by omega) d (by omega))
theorem Qu.inn (x : Qu) : inT tbG x.hF = true := by
 unfold Qu.hF
 simp only [inT_app, Bool.and_eq_true]
 exact ⟨in_fx 1 x.q rfl, in_fx 2 x.v rfl⟩
def tellQu (d : Int) (l : List Fld) : Option (List UInt8 → Qu) :=
 some fun u => ⟨(k'8 l 1).n, (k'8 l 2).n, u⟩
def okQu (s : List UInt8) (d : Int) : Option Qu := apO (okG tbG tellQu s d)
theorem Qu.tell {x : Qu} (hwf : x.wf) (d : Int) : tellQu d x.hF = (
 some fun u => ⟨x.q, x.v, u⟩) := by
 obtain ⟨w0, w1⟩ := hwf
 have sq : sel 1 x.hF = fxF 1 x.q := by unfold Qu.hF; simp [k'a, k'z, k'q, k'y, k'r, k'n]
 have tq : (k'8 x.hF 1).n = x.q := k'21 sq
 have sv : sel 2 x.hF = fxF 2 x.v := by unfold Qu.hF; simp [k'a, k'z, k'q, k'y, k'r, k'n]
 have tv : (k'8 x.hF 2).n = x.v := k'21 sv
 unfold tellQu
 simp only [tq, tv]
theorem Qu_back : Back okQu Qu.mar Qu.may (fun x => x.sz < big ∧ x.wf) := by
 intro d x hf hm
 obtain ⟨hbig, hwf⟩ := hf
 have hall := Qu.all hbig hwf
 have hwf0 := hwf
 have hbig' := hbig
 unfold Qu.sz big at hbig'
 obtain ⟨-, -⟩ := hwf
 unfold Qu.may at hm
 simp only [Bool.and_eq_true, decide_eq_true_eq] at hm
 obtain ⟨hd, hu⟩ := hm
 have htell := fun d => Qu.tell (x := x) hwf0 d
 constructor
 ·unfold okQu Qu.mar
  rw [k'1a hd (hall d) x.inn hu, htell]
  rfl
 ·intro e he hn
  unfold okQu Qu.mar
  cases hr : k'2b tbG x.u e with
  | false => rw [k'v (hall e) he hu fun _ => hr]; rfl
  | true =>
   rcases Int.lt_or_le e 0 with h0 | h0
   ·rw [k'2j h0]; rfl
   ·rw [k'1a h0 (hall e) x.inn hr, htell]
    exfalso
    unfold Qu.may at hn
    simp [h0, hr, ] at hn
def Qu.eq (x y : Qu) : Bool := x.q == y.q && x.v == y.v && x.u == y.u
def Qu.eqs : List Qu → List Qu → Bool
 | [], [] => true
 | v :: l, w :: r => v.eq w && Qu.eqs l r
 | [], _ :: _ => false
 | _ :: _, [] => false
theorem Qu.eqs_by (a b : List Qu) : Qu.eqs a b = (a.length == b.length && (List.range a.length).all (byI Qu.eq a b)) :=
 k'4k Qu.eq Qu.eqs rfl (fun _ _ _ _ => rfl) (fun _ _ => rfl) (fun _ _ => rfl) a b
