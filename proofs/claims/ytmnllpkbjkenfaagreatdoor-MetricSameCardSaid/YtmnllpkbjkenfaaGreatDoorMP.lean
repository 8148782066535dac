/- Metric: what they are, their bytes, what may be, what is read. -/
import Derived.Test.YtmnllpkbjkenfaaGreatDoorMI
set_option linter.unusedSimpArgs false
set_option linter.unusedVariables false
set_option maxRecDepth 100000
namespace Go.Proofs.YtmnllpkbjkenfaaGreatDoor
open Go Go.Abs
structure Me where
 name : List UInt8
 desc : List UInt8
 unit : List UInt8
 kind : Int
 dat : In
 mets : List Kv
 u : List UInt8
def noMe : Me := ⟨[], [], [], 0, noIn, [], []⟩
def Me.hb (x : Me) : List UInt8 := txV 1 x.name ++ txV 2 x.desc ++ txV 3 x.unit ++ onV x.kind x.dat ++ psV 12 (Kv.mars x.mets)
def Me.hF (x : Me) : List Fld := txF 1 x.name ++ txF 2 x.desc ++ txF 3 x.unit ++ onF x.kind x.dat ++ psF 12 (Kv.mars x.mets)
def Me.mar (x : Me) : List UInt8 := x.hb ++ x.u
variable (B : Fr)
def tbM (n k : Nat) : Bool := k == 2 && ((decide (1 ≤ n) && decide (n ≤ 3)) || (n == 12 || decide (0 < kindK n)))
def Me.wf (x : Me) : Prop := x.dat.wf ∧ (∀ k ∈ x.mets, k.wf)
def Me.sz (x : Me) : Nat := 300 + x.name.length + x.desc.length + x.unit.length + x.dat.sz + Kv.szs x.mets + x.u.length
def Me.may (x : Me) (d : Int) : Bool := decide (0 ≤ d) && mayOn x.kind x.dat (d - 1) && txt x.name && txt x.desc && txt x.unit && (x.mets.all fun k => k.may (d - 1)) && restB tbM x.u d
theorem Me.hb_len (x : Me) : x.mar.length + 20 ≤ x.sz := by
 have q0 := txV_len 1 x.name
 have q1 := txV_len 2 x.desc
 have q2 := txV_len 3 x.unit
 have q3 := onV_len x.kind x.dat
 have q4 := Kv.marsP_len 12 x.mets
 unfold Me.mar Me.hb Me.sz
 simp only [List.length_append]
 omega
theorem Me.mar_len (x : Me) : x.mar.length + 20 ≤ x.sz := Me.hb_len x
theorem Me.mars_lt {l : List Me} (h : (l.map Me.sz).sum < big) : ∀ s ∈ l.map Me.mar, s.length < 2 ^ 64 := fun s hs => by
 obtain ⟨k, hk, rfl⟩ := List.mem_map.1 hs
 have h1 := Me.mar_len k; have h2 := k'2b (sz := Me.sz) hk
 unfold big at h; omega
theorem Me.all {x : Me} (h1 : x.sz < big) (h2 : x.wf) (d : Int) : all x.hb d = .ok x.hF := by
 unfold Me.sz big at h1
 obtain ⟨w0, w1⟩ := h2
 exact k'4 (k'4 (k'4 (k'4 (all_tx (by omega) (by omega) d (by omega)) (all_tx (by omega) (by omega) d (by omega))) (all_tx (by omega) (by omega) d (by omega))) (all_on x.kind x.dat d (by unfold big; omega))) (k'4j (by omega) (by omega) d (Kv.mars_lt (by unfold big; omega)))
def tellMe (d : Int) (l : List Fld) : Option (List UInt8 → Me) :=
 match k'2t 1 l with
 | none => none
 | some name =>
 match k'2t 2 l with
 | none => none
 | some desc =>
 match k'2t 3 l with
 | none => none
 | some unit =>
 match onO d l with
 | none => none
 | some data =>
 match k'7 (fun s => okK s (d - 1)) 12 l with
 | none => none
 | some mets =>
 some fun u => ⟨name, desc, unit, data.1, data.2, mets, u⟩
def okMe (s : List UInt8) (d : Int) : Option Me := apO (okG tbM tellMe s d)
theorem Me.tell {x : Me} (hwf : x.wf) (h_name : txt x.name = true) (h_desc : txt x.desc = true) (h_unit : txt x.unit = true) (d : Int) : tellMe d x.hF = (
 match onS x.kind x.dat d with
 | none => none
 | some data =>
 match mapO (fun s => okK s (d - 1)) (Kv.mars x.mets) with
 | none => none
 | some mets =>
 some fun u => ⟨x.name, x.desc, x.unit, data.1, data.2, mets, u⟩) := by
 obtain ⟨w0, w1⟩ := hwf
 have sname : sel 1 x.hF = txF 1 x.name := by unfold Me.hF; simp [k'b, k'w, k'u, k'v, k's, k'r, k'44 1 _ _ rfl, k'44 2 _ _ rfl, k'44 3 _ _ rfl, k'44 12 _ _ rfl]
 have tname : k'2t 1 x.hF = some x.name := text_of sname h_name
 have sdesc : sel 2 x.hF = txF 2 x.desc := by unfold Me.hF; simp [k'b, k'w, k'u, k'v, k's, k'r, k'44 1 _ _ rfl, k'44 2 _ _ rfl, k'44 3 _ _ rfl, k'44 12 _ _ rfl]
 have tdesc : k'2t 2 x.hF = some x.desc := text_of sdesc h_desc
 have sunit : sel 3 x.hF = txF 3 x.unit := by unfold Me.hF; simp [k'b, k'w, k'u, k'v, k's, k'r, k'44 1 _ _ rfl, k'44 2 _ _ rfl, k'44 3 _ _ rfl, k'44 12 _ _ rfl]
 have tunit : k'2t 3 x.hF = some x.unit := text_of sunit h_unit
 have sdata : selN onNs x.hF = onF x.kind x.dat := by unfold Me.hF; simp [selN_app, selN_fx, selN_vr, selN_op, selN_tx, selN_ps, selN_on, show (1 : Nat) ∉ onNs by decide, show (2 : Nat) ∉ onNs by decide, show (3 : Nat) ∉ onNs by decide, show (12 : Nat) ∉ onNs by decide]
 have tdata : ∀ e, onO e x.hF = onS x.kind x.dat e := fun e => onO_sel e sdata
 have smets : sel 12 x.hF = psF 12 (Kv.mars x.mets) := by unfold Me.hF; simp [k'b, k'w, k'u, k'v, k's, k'r, k'44 1 _ _ rfl, k'44 2 _ _ rfl, k'44 3 _ _ rfl, k'44 12 _ _ rfl]
 have tmets : ∀ {α : Type} (ok : List UInt8 → Option α), k'7 ok 12 x.hF = mapO ok (Kv.mars x.mets) := fun ok => k'2r ok smets
 unfold tellMe
 simp only [tname, tdesc, tunit, tdata, tmets]
def Me.eq (x y : Me) : Bool := x.name == y.name && x.desc == y.desc && x.unit == y.unit && x.kind == y.kind && x.dat.eq y.dat && Kv.eqs x.mets y.mets && x.u == y.u
def Me.eqs : List Me → List Me → Bool
 | [], [] => true
 | v :: l, w :: r => v.eq w && Me.eqs l r
 | [], _ :: _ => false
 | _ :: _, [] => false
theorem Me.eq_self (x : Me) : x.eq x = true := by unfold Me.eq; simp [Kv.eqs_self, In.eq_self]
theorem Me.eqs_self : ∀ l : List Me, Me.eqs l l = true
 | [] => rfl
 | v :: l => by unfold Me.eqs; simp [Me.eq_self v, Me.eqs_self l]
theorem Me.eqs_by (a b : List Me) : Me.eqs a b = (a.length == b.length && (List.range a.length).all (byI Me.eq a b)) :=
 k'48 Me.eq Me.eqs rfl (fun _ _ _ _ => rfl) (fun _ _ => rfl) (fun _ _ => rfl) a b
