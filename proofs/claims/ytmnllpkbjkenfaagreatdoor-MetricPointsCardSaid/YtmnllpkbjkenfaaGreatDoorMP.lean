/- Metric: what they are, their bytes, what may be, what is read. -/
import Derived.Test.YtmnllpkbjkenfaaGreatDoorMI
set_option linter.unusedSimpArgs false
set_option linter.unusedVariables false
set_option maxRecDepth 100000
namespace Go.Proofs.YtmnllpkbjkenfaaGreatDoor
open Go Go.Abs
structure Me where
 name : List UInt8
 desc : List UInt8
 unit : List UInt8
 kind : Int
 dat : In
 mets : List Kv
 u : List UInt8
def noMe : Me := ⟨[], [], [], 0, noIn, [], []⟩
def Me.hb (x : Me) : List UInt8 := txV 1 x.name ++ txV 2 x.desc ++ txV 3 x.unit ++ onV x.kind x.dat ++ psV 12 (Kv.mars x.mets)
def Me.hF (x : Me) : List Fld := txF 1 x.name ++ txF 2 x.desc ++ txF 3 x.unit ++ onF x.kind x.dat ++ psF 12 (Kv.mars x.mets)
def Me.mar (x : Me) : List UInt8 := x.hb ++ x.u
variable (B : Fr)
def tbM (n k : Nat) : Bool := k == 2 && ((decide (1 ≤ n) && decide (n ≤ 3)) || (n == 12 || decide (0 < kindK n)))
theorem tbM_on : ∀ n, onNs.contains n = true → tbM n 2 = true := by
 intro n h
 have : n = 5 ∨ n = 7 ∨ n = 9 ∨ n = 10 ∨ n = 11 := by simpa [onNs] using h
 rcases this with rfl | rfl | rfl | rfl | rfl <;> rfl
def Me.wf (x : Me) : Prop := x.dat.wf ∧ (∀ k ∈ x.mets, k.wf)
def Me.sz (x : Me) : Nat := 300 + x.name.length + x.desc.length + x.unit.length + x.dat.sz + Kv.szs x.mets + x.u.length
def Me.may (x : Me) (d : Int) : Bool := decide (0 ≤ d) && mayOn x.kind x.dat (d - 1) && txt x.name && txt x.desc && txt x.unit && (x.mets.all fun k => k.may (d - 1)) && k'2b tbM x.u d
theorem Me.hb_len (x : Me) : x.mar.length + 20 ≤ x.sz := by
 have q0 := txV_len 1 x.name
 have q1 := txV_len 2 x.desc
 have q2 := txV_len 3 x.unit
 have q3 := onV_len x.kind x.dat
 have q4 := Kv.marsP_len 12 x.mets
 unfold Me.mar Me.hb Me.sz
 simp only [List.length_append]
 omega
theorem Me.mar_len (x : Me) : x.mar.length + 20 ≤ x.sz := Me.hb_len x
theorem Me.mars_lt {l : List Me} (h : (l.map Me.sz).sum < big) : ∀ s ∈ l.map Me.mar, s.length < 2 ^ 64 := fun s hs => by
 obtain ⟨k, hk, rfl⟩ := List.mem_map.1 hs
 have h1 := Me.mar_len k; have h2 := k'20 (sz := Me.sz) hk
 unfold big at h; omega
theorem Me.all {x : Me} (h1 : x.sz < big) (h2 : x.wf) (d : Int) : all x.hb d = .ok x.hF := by
 unfold Me.sz big at h1
 obtain ⟨w0, w1⟩ := h2
 exact k'4 (k'4 (k'4 (k'4 (all_tx (by omega) (by omega) d (by omega)) (all_tx (by omega) (by omega) d (by omega))) (all_tx (by omega) (by omega) d (by omega))) (all_on x.kind x.dat d (by unfold big; omega))) (k'3p (by omega) (by omega) d (Kv.mars_lt (by unfold big; omega)))
theorem Me.inn (x : Me) : inT tbM x.hF = true := by
 unfold Me.hF
 simp only [inT_app, Bool.and_eq_true]
 exact ⟨⟨⟨⟨in_tx 1 x.name rfl, in_tx 2 x.desc rfl⟩, in_tx 3 x.unit rfl⟩, in_on x.kind x.dat tbM_on⟩, in_ps 12 _ rfl⟩
def tellMe (d : Int) (l : List Fld) : Option (List UInt8 → Me) :=
 match k'2n 1 l with
 | none => none
 | some name =>
 match k'2n 2 l with
 | none => none
 | some desc =>
 match k'2n 3 l with
 | none => none
 | some unit =>
 match onO d l with
 | none => none
 | some data =>
 match k'7 (fun s => okK s (d - 1)) 12 l with
 | none => none
 | some mets =>
 some fun u => ⟨name, desc, unit, data.1, data.2, mets, u⟩
def okMe (s : List UInt8) (d : Int) : Option Me := apO (okG tbM tellMe s d)
theorem Me.tell {x : Me} (hwf : x.wf) (h_name : txt x.name = true) (h_desc : txt x.desc = true) (h_unit : txt x.unit = true) (d : Int) : tellMe d x.hF = (
 match onS x.kind x.dat d with
 | none => none
 | some data =>
 match mapO (fun s => okK s (d - 1)) (Kv.mars x.mets) with
 | none => none
 | some mets =>
 some fun u => ⟨x.name, x.desc, x.unit, data.1, data.2, mets, u⟩) := by
 obtain ⟨w0, w1⟩ := hwf
 have sname : sel 1 x.hF = txF 1 x.name := by unfold Me.hF; simp [k'a, k'z, k'q, k'y, k'r, k'n, k'4f 1 _ _ rfl, k'4f 2 _ _ rfl, k'4f 3 _ _ rfl, k'4f 12 _ _ rfl]
 have tname : k'2n 1 x.hF = some x.name := text_of sname h_name
 have sdesc : sel 2 x.hF = txF 2 x.desc := by unfold Me.hF; simp [k'a, k'z, k'q, k'y, k'r, k'n, k'4f 1 _ _ rfl, k'4f 2 _ _ rfl, k'4f 3 _ _ rfl, k'4f 12 _ _ rfl]
 have tdesc : k'2n 2 x.hF = some x.desc := text_of sdesc h_desc
 have sunit : sel 3 x.hF = txF 3 x.unit := by unfold Me.hF; simp [k'a, k'z, k'q, k'y, k'r, k'n, k'4f 1 _ _ rfl, k'4f 2 _ _ rfl, k'4f 3 _ _ rfl, k'4f 12 _ _ rfl]
 have tunit : k'2n 3 x.hF = some x.unit := text_of sunit h_unit
 have sdata : selN onNs x.hF = onF x.kind x.dat := by unfold Me.hF; simp [selN_app, selN_fx, selN_vr, selN_op, selN_tx, selN_ps, selN_on, show (1 : Nat) ∉ onNs by decide, show (2 : Nat) ∉ onNs by decide, show (3 : Nat) ∉ onNs by decide, show (12 : Nat) ∉ onNs by decide]
 have tdata : ∀ e, onO e x.hF = onS x.kind x.dat e := fun e => onO_sel e sdata
 have smets : sel 12 x.hF = psF 12 (Kv.mars x.mets) := by unfold Me.hF; simp [k'a, k'z, k'q, k'y, k'r, k'n, k'4f 1 _ _ rfl, k'4f 2 _ _ rfl, k'4f 3 _ _ rfl, k'4f 12 _ _ rfl]
 have tmets : ∀ {α : Type} (ok : List UInt8 → Option α), k'7 ok 12 x.hF = mapO ok (Kv.mars x.mets) := fun ok => k'1g ok smets
 unfold tellMe
 simp only [tname, tdesc, tunit, tdata, tmets]
theorem Me_back : Back okMe Me.mar Me.may (fun x => x.sz < big ∧ x.wf) := by
 intro d x hf hm
 obtain ⟨hbig, hwf⟩ := hf
 have hall := Me.all hbig hwf
 have hwf0 := hwf
 have hbig' := hbig
 unfold Me.sz big at hbig'
 obtain ⟨w_data, w_mets⟩ := hwf
 unfold Me.may at hm
 simp only [Bool.and_eq_true, decide_eq_true_eq] at hm
 obtain ⟨⟨⟨⟨⟨⟨hd, m_data⟩, m_name⟩, m_desc⟩, m_unit⟩, m_mets⟩, hu⟩ := hm
 have htell := fun d => Me.tell (x := x) hwf0 m_name m_desc m_unit d
 obtain ⟨a_data, b_data⟩ := on_back x.kind x.dat d ⟨by unfold big; omega, w_data⟩ m_data
 obtain ⟨a_mets, b_mets⟩ := Kv_back.list (l := x.mets) (d := d - 1) (fun k hk => ⟨by have := Kv.sz_mem hk; unfold big; omega, w_mets k hk⟩) m_mets
 simp only [← Kv.mars_map] at a_mets b_mets
 constructor
 ·unfold okMe Me.mar
  rw [k'1a hd (hall d) x.inn hu, htell]
  simp only [a_data, a_mets]
  rfl
 ·intro e he hn
  unfold okMe Me.mar
  cases hr : k'2b tbM x.u e with
  | false => rw [k'v (hall e) he hu fun _ => hr]; rfl
  | true =>
   rcases Int.lt_or_le e 0 with h0 | h0
   ·rw [k'2j h0]; rfl
   ·rw [k'1a h0 (hall e) x.inn hr, htell]
    cases h_data : mayOn x.kind x.dat (e - 1)
    ·have := b_data e (by omega) h_data
     simp only [this]
     rfl
    cases h_mets : (x.mets.all fun k => k.may (e - 1))
    ·have := b_mets (e - 1) (by omega) h_mets
     simp only [this]
     all_goals (repeat' split) <;> rfl
    exfalso
    unfold Me.may at hn
    simp [h0, hr, m_name, m_desc, m_unit, h_data, h_mets] at hn
def Me.eq (x y : Me) : Bool := x.name == y.name && x.desc == y.desc && x.unit == y.unit && x.kind == y.kind && x.dat.eq y.dat && Kv.eqs x.mets y.mets && x.u == y.u
def Me.eqs : List Me → List Me → Bool
 | [], [] => true
 | v :: l, w :: r => v.eq w && Me.eqs l r
 | [], _ :: _ => false
 | _ :: _, [] => false
theorem Me.eqs_by (a b : List Me) : Me.eqs a b = (a.length == b.length && (List.range a.length).all (byI Me.eq a b)) :=
 k'4k Me.eq Me.eqs rfl (fun _ _ _ _ => rfl) (fun _ _ => rfl) (fun _ _ => rfl) a b
