/- Quantile: what they are, their bytes, what may be, what is read. -/
import Derived.Test.YtmnllpkbjkenfaaGreatDoorPAB
set_option linter.unusedSimpArgs false
set_option linter.unusedVariables false
set_option maxRecDepth 100000
namespace Go.Proofs.YtmnllpkbjkenfaaGreatDoor
open Go Go.Abs
structure Qu where
 q : Nat
 v : Nat
 u : List UInt8
def noQu : Qu := ⟨0, 0, []⟩
def Qu.hb (x : Qu) : List UInt8 := fxV 1 x.q ++ fxV 2 x.v
def Qu.hF (x : Qu) : List Fld := fxF 1 x.q ++ fxF 2 x.v
def Qu.mar (x : Qu) : List UInt8 := x.hb ++ x.u
variable (B : Fr)
def tbG (n k : Nat) : Bool := bif [1, 2].contains n then k == 1 else false
theorem tbG_calls (n k : Nat) : k'1 (cx B) 295 [iT n, iT k] [] (.d (.bool (tbG n k))) [] := by
 refine k'2 (X := cx B) (fn := Tryz.f295) Tryz.func295 rfl rfl rfl rfl rfl 0 [] rfl rfl ?_
 refine Y ?_
 cases h0 : ((n : Int) == 1) with
 | true =>
  have e : n = 1 := by have := eq_of_beq h0; omega
  subst e
  rw [show tbG 1 k = ((k : Int) == 1) from (ibeq k 1).symm]
  exact Z
 | false =>
 have eh0 : n ≠ 1 := by have := ne_of_beq_false h0; omega
 refine Y ?_
 cases h1 : ((n : Int) == 2) with
 | true =>
  have e : n = 2 := by have := eq_of_beq h1; omega
  subst e
  rw [show tbG 2 k = ((k : Int) == 1) from (ibeq k 1).symm]
  exact Z
 | false =>
 have eh1 : n ≠ 2 := by have := ne_of_beq_false h1; omega
 refine Y ?_
 rw [show tbG n k = false from by unfold tbG; simp [eh0, eh1]]
 exact k'i rfl
def Qu.wf (x : Qu) : Prop := x.q < 2 ^ 64 ∧ x.v < 2 ^ 64
def Qu.sz (x : Qu) : Nat := 300 + 0 + x.u.length
def Qu.may (x : Qu) (d : Int) : Bool := decide (0 ≤ d) && restB tbG x.u d
theorem Qu.hb_len (x : Qu) : x.mar.length + 20 ≤ x.sz := by
 have q0 := k'24 1 x.q
 have q1 := k'24 2 x.v
 unfold Qu.mar Qu.hb Qu.sz
 simp only [List.length_append]
 omega
theorem Qu.mar_len (x : Qu) : x.mar.length + 20 ≤ x.sz := Qu.hb_len x
theorem Qu.mars_lt {l : List Qu} (h : (l.map Qu.sz).sum < big) : ∀ s ∈ l.map Qu.mar, s.length < 2 ^ 64 := fun s hs => by
 obtain ⟨k, hk, rfl⟩ := List.mem_map.1 hs
 have h1 := Qu.mar_len k; have h2 := k'2b (sz := Qu.sz) hk
 unfold big at h; omega
theorem Qu.all {x : Qu} (h1 : x.sz < big) (h2 : x.wf) (d : Int) : all x.hb d = .ok x.hF := by
 unfold Qu.sz big at h1
 obtain ⟨w0, w1⟩ := h2
 exact k'4 (k'3v (by omega) (by omega) d (by omega)) (k'3v (by omega) (by omega) d (by omega))
def tellQu (d : Int) (l : List Fld) : Option (List UInt8 → Qu) :=
 some fun u => ⟨(k'8 l 1).n, (k'8 l 2).n, u⟩
def okQu (s : List UInt8) (d : Int) : Option Qu := apO (okG tbG tellQu s d)
theorem Qu.tell {x : Qu} (hwf : x.wf) (d : Int) : tellQu d x.hF = (
 some fun u => ⟨x.q, x.v, u⟩) := by
 obtain ⟨w0, w1⟩ := hwf
 have sq : sel 1 x.hF = fxF 1 x.q := by unfold Qu.hF; simp [k'b, k'w, k'u, k'v, k's, k'r]
 have tq : (k'8 x.hF 1).n = x.q := k'20 sq
 have sv : sel 2 x.hF = fxF 2 x.v := by unfold Qu.hF; simp [k'b, k'w, k'u, k'v, k's, k'r]
 have tv : (k'8 x.hF 2).n = x.v := k'20 sv
 unfold tellQu
 simp only [tq, tv]
def Qu.eq (x y : Qu) : Bool := x.q == y.q && x.v == y.v && x.u == y.u
def Qu.eqs : List Qu → List Qu → Bool
 | [], [] => true
 | v :: l, w :: r => v.eq w && Qu.eqs l r
 | [], _ :: _ => false
 | _ :: _, [] => false
theorem Qu.eq_self (x : Qu) : x.eq x = true := by unfold Qu.eq; simp [Kv.eqs_self]
theorem Qu.eqs_self : ∀ l : List Qu, Qu.eqs l l = true
 | [] => rfl
 | v :: l => by unfold Qu.eqs; simp [Qu.eq_self v, Qu.eqs_self l]
theorem Qu.eqs_by (a b : List Qu) : Qu.eqs a b = (a.length == b.length && (List.range a.length).all (byI Qu.eq a b)) :=
 k'48 Qu.eq Qu.eqs rfl (fun _ _ _ _ => rfl) (fun _ _ => rfl) (fun _ _ => rfl) a b
