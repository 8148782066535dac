/- Resource: what they are, their bytes, what may be, what is read. -/
import Derived.Test.YtcfkbpddmdfbaaaGreatDoorCW
set_option linter.unusedSimpArgs false
set_option linter.unusedVariables false
set_option maxRecDepth 100000
namespace Go.Proofs.YtcfkbpddmdfbaaaGreatDoor
open Go Go.Abs
variable (B : Fr)
section
structure Rs where
 attrs : List Kv
 dropped : Nat
 u : List UInt8
def noRs : Rs := ⟨[], 0, []⟩
def Rs.hb (x : Rs) : List UInt8 := psV 1 (Kv.mars x.attrs) ++ vrV 2 x.dropped
def Rs.hF (x : Rs) : List Fld := psF 1 (Kv.mars x.attrs) ++ vrF 2 x.dropped
def Rs.mar (x : Rs) : List UInt8 := x.hb ++ x.u
def tbD (n k : Nat) : Bool := (n == 1 && k == 2) || (n == 2 && k == 0)
theorem tbD_calls (n k : Nat) : k'0 (cx B) 140 [iT n, iT k] [] (.d (.bool (tbD n k))) [] := by
 rw [show tbD n k = ((((n : Int) == 1) && ((k : Int) == 2)) || (((n : Int) == 2) && ((k : Int) == 0))) by unfold tbD; rw [show ((k : Int) == 2) = (k == 2) from ibeq k 2, show ((k : Int) == 0) = (k == 0) from ibeq k 0, show ((n : Int) == 1) = (n == 1) from ibeq n 1, show ((n : Int) == 2) = (n == 2) from ibeq n 2]]
 refine l_bw Tryz.func140 0 [] ?_
 cases e1 : ((n : Int) == 1)
 ·refine Y ?_
  cases e2 : ((n : Int) == 2)
  ·exact Z
  exact Z
 have e2 : ((n : Int) == 2) = false := by have := eq_of_beq e1; simp; omega
 rw [e2]
 refine Y ?_
 cases e3 : ((k : Int) == 2)
 ·refine Y ?_
  rw [e2]
  exact Z
 exact Z
def Rs.wf (x : Rs) : Prop := (∀ k ∈ x.attrs, k.wf) ∧ x.dropped < 4294967296
def Rs.sz (x : Rs) : Nat := 300 + Kv.szs x.attrs + x.u.length
def Rs.may (x : Rs) (d : Int) : Bool := decide (0 ≤ d) && (x.attrs.all fun k => k.may (d - 1)) && k'1a tbD x.u d
theorem Rs.hb_len (x : Rs) : x.mar.length + 20 ≤ x.sz := by
 have q0 := Kv.marsP_len 1 x.attrs
 have q1 := k'3d 2 x.dropped
 unfold Rs.mar Rs.hb Rs.sz
 simp only [List.length_append]
 omega
theorem Rs.mar_len (x : Rs) : x.mar.length + 20 ≤ x.sz := Rs.hb_len x
theorem Rs.mars_lt {l : List Rs} (h : (l.map Rs.sz).sum < big) : ∀ s ∈ l.map Rs.mar, s.length < 2 ^ 64 := fun s hs => by
 obtain ⟨k, hk, rfl⟩ := List.mem_map.1 hs
 have h1 := Rs.mar_len k; have h2 := k'x (sz := Rs.sz) hk
 unfold big at h; omega
theorem Rs.all {x : Rs} (h1 : x.sz < big) (h2 : x.wf) (d : Int) : all x.hb d = .ok x.hF := by
 unfold Rs.sz big at h1
 obtain ⟨w0, w1⟩ := h2
 exact k'4 (k'40 (by omega) (by omega) d (Kv.mars_lt (by unfold big; omega))) (all_vr (by omega) (by omega) d (by omega))
def tellRs (d : Int) (l : List Fld) : Option (List UInt8 → Rs) :=
 match k'1o (fun s => okK s (d - 1)) 1 l with
 | none => none
 | some attrs =>
 some fun u => ⟨attrs, (k'19 l 2).n % 4294967296, u⟩
theorem Rs.tell {x : Rs} (hwf : x.wf) (d : Int) : tellRs d x.hF = (
 match mapO (fun s => okK s (d - 1)) (Kv.mars x.attrs) with
 | none => none
 | some attrs =>
 some fun u => ⟨attrs, x.dropped, u⟩) := by
 obtain ⟨w0, w1⟩ := hwf
 have sattrs : sel 1 x.hF = psF 1 (Kv.mars x.attrs) := by unfold Rs.hF; simp [k'b, k'u, k's, k't, k'q, k'p]
 have tattrs : ∀ {α : Type} (ok : List UInt8 → Option α), k'1o ok 1 x.hF = mapO ok (Kv.mars x.attrs) := fun ok => k'2g ok sattrs
 have sdropped : sel 2 x.hF = vrF 2 x.dropped := by unfold Rs.hF; simp [k'b, k'u, k's, k't, k'q, k'p]
 have tdropped : (k'19 x.hF 2).n % 4294967296 = x.dropped := by rw [last_vr sdropped]; omega
 unfold tellRs
 simp only [tattrs, tdropped]
def Rs.eq (x y : Rs) : Bool := Kv.eqs x.attrs y.attrs && x.dropped == y.dropped && x.u == y.u
def Rs.eqs : List Rs → List Rs → Bool
 | [], [] => true
 | v :: l, w :: r => v.eq w && Rs.eqs l r
 | [], _ :: _ => false
 | _ :: _, [] => false
theorem Rs.eq_self (x : Rs) : x.eq x = true := by unfold Rs.eq; simp [Kv.eqs_self]
theorem Rs.eqs_self : ∀ l : List Rs, Rs.eqs l l = true
 | [] => rfl
 | v :: l => by unfold Rs.eqs; simp [Rs.eq_self v, Rs.eqs_self l]
theorem Rs.eqs_by (a b : List Rs) : Rs.eqs a b = (a.length == b.length && (List.range a.length).all (byI Rs.eq a b)) :=
 k'3i Rs.eq Rs.eqs rfl (fun _ _ _ _ => rfl) (fun _ _ => rfl) (fun _ _ => rfl) a b
end
section
structure Me where
 name : List UInt8
 desc : List UInt8
 unit : List UInt8
 kind : Int
 dat : In
 mets : List Kv
 u : List UInt8
def noMe : Me := ⟨[], [], [], 0, noIn, [], []⟩
def Me.hb (x : Me) : List UInt8 := txV 1 x.name ++ txV 2 x.desc ++ txV 3 x.unit ++ onV x.kind x.dat ++ psV 12 (Kv.mars x.mets)
def Me.hF (x : Me) : List Fld := txF 1 x.name ++ txF 2 x.desc ++ txF 3 x.unit ++ onF x.kind x.dat ++ psF 12 (Kv.mars x.mets)
def Me.mar (x : Me) : List UInt8 := x.hb ++ x.u
def tbM (n k : Nat) : Bool := k == 2 && ((decide (1 ≤ n) && decide (n ≤ 3)) || (n == 12 || decide (0 < kindK n)))
def Me.wf (x : Me) : Prop := x.dat.wf ∧ (∀ k ∈ x.mets, k.wf)
def Me.sz (x : Me) : Nat := 300 + x.name.length + x.desc.length + x.unit.length + x.dat.sz + Kv.szs x.mets + x.u.length
def Me.may (x : Me) (d : Int) : Bool := decide (0 ≤ d) && mayOn x.kind x.dat (d - 1) && txt x.name && txt x.desc && txt x.unit && (x.mets.all fun k => k.may (d - 1)) && k'1a tbM x.u d
theorem Me.hb_len (x : Me) : x.mar.length + 20 ≤ x.sz := by
 have q0 := k'3m 1 x.name
 have q1 := k'3m 2 x.desc
 have q2 := k'3m 3 x.unit
 have q3 := onV_len x.kind x.dat
 have q4 := Kv.marsP_len 12 x.mets
 unfold Me.mar Me.hb Me.sz
 simp only [List.length_append]
 omega
theorem Me.mar_len (x : Me) : x.mar.length + 20 ≤ x.sz := Me.hb_len x
theorem Me.mars_lt {l : List Me} (h : (l.map Me.sz).sum < big) : ∀ s ∈ l.map Me.mar, s.length < 2 ^ 64 := fun s hs => by
 obtain ⟨k, hk, rfl⟩ := List.mem_map.1 hs
 have h1 := Me.mar_len k; have h2 := k'x (sz := Me.sz) hk
 unfold big at h; omega
theorem Me.all {x : Me} (h1 : x.sz < big) (h2 : x.wf) (d : Int) : all x.hb d = .ok x.hF := by
 unfold Me.sz big at h1
 obtain ⟨w0, w1⟩ := h2
 exact k'4 (k'4 (k'4 (k'4 (all_tx (by omega) (by omega) d (by omega)) (all_tx (by omega) (by omega) d (by omega))) (all_tx (by omega) (by omega) d (by omega))) (all_on x.kind x.dat d (by unfold big; omega))) (k'40 (by omega) (by omega) d (Kv.mars_lt (by unfold big; omega)))
def tellMe (d : Int) (l : List Fld) : Option (List UInt8 → Me) :=
 match textO 1 l with
 | none => none
 | some name =>
 match textO 2 l with
 | none => none
 | some desc =>
 match textO 3 l with
 | none => none
 | some unit =>
 match onO d l with
 | none => none
 | some data =>
 match k'1o (fun s => okK s (d - 1)) 12 l with
 | none => none
 | some mets =>
 some fun u => ⟨name, desc, unit, data.1, data.2, mets, u⟩
theorem Me.tell {x : Me} (hwf : x.wf) (h_name : txt x.name = true) (h_desc : txt x.desc = true) (h_unit : txt x.unit = true) (d : Int) : tellMe d x.hF = (
 match onS x.kind x.dat d with
 | none => none
 | some data =>
 match mapO (fun s => okK s (d - 1)) (Kv.mars x.mets) with
 | none => none
 | some mets =>
 some fun u => ⟨x.name, x.desc, x.unit, data.1, data.2, mets, u⟩) := by
 obtain ⟨w0, w1⟩ := hwf
 have sname : sel 1 x.hF = txF 1 x.name := by unfold Me.hF; simp [k'b, k'u, k's, k't, k'q, k'p, k'48 1 _ _ rfl, k'48 2 _ _ rfl, k'48 3 _ _ rfl, k'48 12 _ _ rfl]
 have tname : textO 1 x.hF = some x.name := text_of sname h_name
 have sdesc : sel 2 x.hF = txF 2 x.desc := by unfold Me.hF; simp [k'b, k'u, k's, k't, k'q, k'p, k'48 1 _ _ rfl, k'48 2 _ _ rfl, k'48 3 _ _ rfl, k'48 12 _ _ rfl]
 have tdesc : textO 2 x.hF = some x.desc := text_of sdesc h_desc
 have sunit : sel 3 x.hF = txF 3 x.unit := by unfold Me.hF; simp [k'b, k'u, k's, k't, k'q, k'p, k'48 1 _ _ rfl, k'48 2 _ _ rfl, k'48 3 _ _ rfl, k'48 12 _ _ rfl]
 have tunit : textO 3 x.hF = some x.unit := text_of sunit h_unit
 have sdata : selN onNs x.hF = onF x.kind x.dat := by unfold Me.hF; simp [selN_app, selN_fx, selN_vr, selN_op, selN_tx, selN_ps, selN_on, show (1 : Nat) ∉ onNs by decide, show (2 : Nat) ∉ onNs by decide, show (3 : Nat) ∉ onNs by decide, show (12 : Nat) ∉ onNs by decide]
 have tdata : ∀ e, onO e x.hF = onS x.kind x.dat e := fun e => onO_sel e sdata
 have smets : sel 12 x.hF = psF 12 (Kv.mars x.mets) := by unfold Me.hF; simp [k'b, k'u, k's, k't, k'q, k'p, k'48 1 _ _ rfl, k'48 2 _ _ rfl, k'48 3 _ _ rfl, k'48 12 _ _ rfl]
 have tmets : ∀ {α : Type} (ok : List UInt8 → Option α), k'1o ok 12 x.hF = mapO ok (Kv.mars x.mets) := fun ok => k'2g ok smets
 unfold tellMe
 simp only [tname, tdesc, tunit, tdata, tmets]
def Me.eq (x y : Me) : Bool := x.name == y.name && x.desc == y.desc && x.unit == y.unit && x.kind == y.kind && x.dat.eq y.dat && Kv.eqs x.mets y.mets && x.u == y.u
def Me.eqs : List Me → List Me → Bool
 | [], [] => true
 | v :: l, w :: r => v.eq w && Me.eqs l r
 | [], _ :: _ => false
 | _ :: _, [] => false
theorem Me.eq_self (x : Me) : x.eq x = true := by unfold Me.eq; simp [Kv.eqs_self, In.eq_self]
theorem Me.eqs_self : ∀ l : List Me, Me.eqs l l = true
 | [] => rfl
 | v :: l => by unfold Me.eqs; simp [Me.eq_self v, Me.eqs_self l]
theorem Me.eqs_by (a b : List Me) : Me.eqs a b = (a.length == b.length && (List.range a.length).all (byI Me.eq a b)) :=
 k'3i Me.eq Me.eqs rfl (fun _ _ _ _ => rfl) (fun _ _ => rfl) (fun _ _ => rfl) a b
end
section
structure Ms (S : Type) where
 mar : S → List UInt8
 may : S → Int → Bool
 wf : S → Prop
 sz : S → Nat
 c : Nat
 no : S
 eq : S → S → Bool
 len : ∀ x, (mar x).length + 20 ≤ sz x
 self : ∀ x, eq x x = true
 none : ∀ x, eq x no = true → x = no
 nowf : wf no
 nosz : sz no ≤ c
class Mo {S : Type} (m : Ms S) where
 ok : List UInt8 → Int → Option S
 back : Back ok m.mar m.may (fun x => m.sz x < big ∧ m.wf x)
 told : Told ok m.may m.wf m.sz m.c
def Ms.ok {S : Type} (m : Ms S) [Mo m] : List UInt8 → Int → Option S := Mo.ok m
theorem Ms.back {S : Type} (m : Ms S) [Mo m] : Back m.ok m.mar m.may (fun x => m.sz x < big ∧ m.wf x) := Mo.back
theorem Ms.told {S : Type} (m : Ms S) [Mo m] : Told m.ok m.may m.wf m.sz m.c := Mo.told
def eqsL {S : Type} (eq : S → S → Bool) : List S → List S → Bool
 | [], [] => true
 | v :: l, w :: r => eq v w && eqsL eq l r
 | [], _ :: _ => false
 | _ :: _, [] => false
theorem eqsL_self {S : Type} {eq : S → S → Bool} (h : ∀ x, eq x x = true) : ∀ l, eqsL eq l l = true
 | [] => rfl
 | v :: l => by unfold eqsL; rw [h v, eqsL_self h l]; rfl
theorem Sc.none (x : Sc) (h : x.eq noSc = true) : x = noSc := by
 obtain ⟨n, v, a, d, u⟩ := x
 unfold Sc.eq noSc at h
 simp at h
 obtain ⟨⟨⟨⟨rfl, rfl⟩, ha⟩, rfl⟩, rfl⟩ := h
 cases a with
 | nil => rfl
 | cons k l => simp [Kv.eqs] at ha
theorem Rs.none (x : Rs) (h : x.eq noRs = true) : x = noRs := by
 obtain ⟨a, d, u⟩ := x
 unfold Rs.eq noRs at h
 simp at h
 obtain ⟨⟨ha, rfl⟩, rfl⟩ := h
 cases a with
 | nil => rfl
 | cons k l => simp [Kv.eqs] at ha
def scM : Ms Sc := ⟨Sc.mar, Sc.may, Sc.wf, Sc.sz, 400, noSc, Sc.eq, Sc.mar_len, Sc.eq_self, Sc.none, ⟨by simp [noSc], by decide⟩, by decide⟩
def rsM : Ms Rs := ⟨Rs.mar, Rs.may, Rs.wf, Rs.sz, 400, noRs, Rs.eq, Rs.mar_len, Rs.eq_self, Rs.none, ⟨by simp [noRs], by decide⟩, by decide⟩
section
variable {S : Type} (m : Ms S) (n k : Nat) (h : Bool) (x : S)
def pV : List UInt8 := if h then paV n (m.mar x) else []
def mayP (d : Int) : Bool := if h then m.may x d else m.eq x m.no
theorem pV_len : (pV m n h x).length ≤ m.sz x := by
 unfold pV
 have := m.len x
 split
 ·have := k'2b n (m.mar x); omega
 ·simp
variable {n h x}
end
structure Tr (P Q : Type) where
 has : Bool
 p : P
 qs : List Q
 sch : List UInt8
 u : List UInt8
def tb3 (n k : Nat) : Bool := decide (1 ≤ n) && (decide (n ≤ 3) && k == 2)
section
variable {P Q : Type} (a : Ms P) (b : Ms Q)
def trB (x : Tr P Q) : List UInt8 := pV a 1 x.has x.p ++ psV 2 (x.qs.map b.mar) ++ txV 3 x.sch
def trMar (x : Tr P Q) : List UInt8 := trB a b x ++ x.u
def trWf (x : Tr P Q) : Prop := a.wf x.p ∧ ∀ k ∈ x.qs, b.wf k
def trSz (x : Tr P Q) : Nat := 300 + a.sz x.p + (x.qs.map b.sz).sum + x.sch.length + x.u.length
def trMay (x : Tr P Q) (d : Int) : Bool := decide (0 ≤ d) && mayP a x.has x.p (d - 1) && txt x.sch && (x.qs.all fun k => b.may k (d - 1)) && k'1a tb3 x.u d
def trNo : Tr P Q := ⟨false, a.no, [], [], []⟩
def trEq (x y : Tr P Q) : Bool := x.has == y.has && x.sch == y.sch && x.u == y.u && a.eq x.p y.p && eqsL b.eq x.qs y.qs
theorem tr_len (x : Tr P Q) : (trMar a b x).length + 20 ≤ trSz a b x := by
 have q0 := pV_len a 1 x.has x.p
 have q1 := k'1v 2 x.qs fun y _ => b.len y
 have q2 := k'3m 3 x.sch
 unfold trMar trB trSz
 simp only [List.length_append]
 omega
theorem trEq_self (x : Tr P Q) : trEq a b x x = true := by unfold trEq; simp [a.self, eqsL_self b.self]
theorem tr_none (x : Tr P Q) (h : trEq a b x (trNo a) = true) : x = trNo a := by
 obtain ⟨s, p, q, c, u⟩ := x
 unfold trEq trNo at h
 simp at h
 obtain ⟨⟨⟨⟨rfl, rfl⟩, rfl⟩, hp⟩, hq⟩ := h
 rw [a.none p hp]
 cases q with
 | nil => rfl
 | cons k l => simp [eqsL] at hq
def trM : Ms (Tr P Q) := ⟨trMar a b, trMay a b, trWf a b, trSz a b, a.c + b.c + 400, trNo a, trEq a b, tr_len a b, trEq_self a b, tr_none a b, ⟨a.nowf, by simp [trNo]⟩, by have := a.nosz; unfold trSz trNo; simp; omega⟩
end
theorem Me.none (x : Me) (h : x.eq noMe = true) : x = noMe := by
 obtain ⟨n, e, t, k, ⟨nb, hi, eh, su, te, mo, iu⟩, ms, u⟩ := x
 unfold Me.eq In.eq noMe noIn at h
 simp at h
 obtain ⟨⟨⟨⟨⟨⟨rfl, rfl⟩, rfl⟩, rfl⟩, hd⟩, hm⟩, rfl⟩ := h
 have c1 : nb = [] := by cases nb with | nil => rfl | cons k l => simp [Nb.eqs] at hd
 have c2 : hi = [] := by cases hi with | nil => rfl | cons k l => simp [Hi.eqs] at hd
 have c3 : eh = [] := by cases eh with | nil => rfl | cons k l => simp [Eh.eqs] at hd
 have c4 : su = [] := by cases su with | nil => rfl | cons k l => simp [Su.eqs] at hd
 have c5 : ms = [] := by cases ms with | nil => rfl | cons k l => simp [Kv.eqs] at hm
 subst c1; subst c2; subst c3; subst c4; subst c5
 simp [Nb.eqs, Hi.eqs, Eh.eqs, Su.eqs] at hd
 simp_all [noMe, noIn]
def meM : Ms Me := ⟨Me.mar, Me.may, Me.wf, Me.sz, 1800, noMe, Me.eq, Me.mar_len, Me.eq_self, Me.none, ⟨⟨by simp [noMe, noIn], by simp [noMe, noIn], by simp [noMe, noIn], by simp [noMe, noIn], by decide, by decide⟩, by simp [noMe]⟩, by decide⟩
abbrev Sm := Tr Sc Me
abbrev Rm := Tr Rs Sm
def smM : Ms Sm := trM scM meM
def rmM : Ms Rm := trM rsM smM
structure Bt where
 rs : List Rm
 u : List UInt8
def tb1 (n k : Nat) : Bool := n == 1 && k == 2
def Bt.hb (x : Bt) : List UInt8 := psV 1 (x.rs.map rmM.mar)
def Bt.mar (x : Bt) : List UInt8 := x.hb ++ x.u
def Bt.wf (x : Bt) : Prop := ∀ k ∈ x.rs, rmM.wf k
def Bt.sz (x : Bt) : Nat := 300 + (x.rs.map rmM.sz).sum + x.u.length
def Bt.may (x : Bt) : Bool := (x.rs.all fun k => rmM.may k 31) && k'1a tb1 x.u 32
def Bt.eq (x y : Bt) : Bool := x.u == y.u && eqsL rmM.eq x.rs y.rs
theorem Bt.eq_self (x : Bt) : x.eq x = true := by unfold Bt.eq; rw [eqsL_self rmM.self]; simp
theorem Bt.mar_len (x : Bt) : x.mar.length + 20 ≤ x.sz := by
 have q1 := k'1v 1 x.rs fun y _ => rmM.len y
 unfold Bt.mar Bt.hb Bt.sz
 simp only [List.length_append]
 omega
end
section
def Rs.d (x : Rs) : D := .agg [slD (Kv.ds x.attrs), .int .u32 x.dropped, .str x.u]
def Rs.R (x : Rs) (a : D) : Prop := ∃ (z_attrs : Bool) (l_attrs : List D), a = .agg [.sl z_attrs l_attrs, .int .u32 x.dropped, .str x.u] ∧ Kv.Rs x.attrs l_attrs
def RsSh (x : D) : Prop := ∃ (a0 : Bool) (a1 : List D) (a2 : Nat) (a3 : List UInt8), x = .agg [.sl a0 a1, .int .u32 a2, .str a3]
theorem Rs.R_sh {x : Rs} {a : D} (h : x.R a) : RsSh a := by
 obtain ⟨z_attrs, l_attrs, h, -⟩ := h
 exact ⟨_, _, _, _, h⟩
theorem Rs.d_R (x : Rs) : x.R x.d := ⟨_, _, rfl, Kv.ds_R _⟩
theorem Rs.Rs_sh {l : List Rs} {xs : List D} (h : RsOf Rs.R l xs) : ∀ x ∈ xs, RsSh x := fun x hx => by
 obtain ⟨v, -, r⟩ := h.mem hx
 exact Rs.R_sh r
theorem Rs_Same_calls (x y : Rs) (xa ya : D) (hbig : x.sz < big) (hx : x.R xa) (hy : y.R ya) : k'0 (cx B) 93 [.d xa, .d ya] [] (.d (.bool (x.eq y))) [] := by
 obtain ⟨z_attrs, l_attrs, rfl, r_attrs⟩ := hx
 obtain ⟨y_attrs, m_attrs, rfl, s_attrs⟩ := hy
 unfold Rs.sz at hbig
 have c_attrs := SameKeys_calls B (a := x.attrs) (b := y.attrs) z_attrs y_attrs (by omega) r_attrs s_attrs
 rw [show x.eq y = ((x.dropped == y.dropped) && (x.u == y.u) && (Kv.eqs x.attrs y.attrs)) by unfold Rs.eq; ac_rfl]
 refine l_bw Tryz.func93 0 [] ?_
 rw [ibeq x.dropped y.dropped]
 cases e0 : (x.dropped == y.dropped)
 ·exact Z
 refine Y ?_
 cases e1 : (x.u == y.u)
 ·exact Z
 refine Y ?_
 refine k'a [] (c_attrs) rfl rfl rfl rfl rfl ?_
 exact Z
theorem Rs_May_calls (x : Rs) (xa : D) (d : Int) (hbig : x.sz < big) (hx : x.R xa) (hd1 : -9223372036854775808 ≤ d) (hd2 : d < 9223372036854775808) : k'0 (cx B) 94 [.d xa, .d (.int .i64 d)] [] (.d (.bool (x.may d))) [] := by
 obtain ⟨z_attrs, l_attrs, rfl, r_attrs⟩ := hx
 unfold Rs.sz at hbig
 unfold Rs.may
 by_cases hd0 : 0 ≤ d
 rotate_left
 ·rw [show decide (0 ≤ d) = false from decide_eq_false hd0]
  refine l_bw Tryz.func94 0 [] ?_
  rw [show decide (d ≥ 0) = false from decide_eq_false hd0]
  exact Z
 have c_u := k'o B 140 tbD (tbD_calls B) x.u d (by omega) (by omega) hd2
 have c_attrs := k'1d B (a := x.attrs) z_attrs (d - 1) (by omega) (by omega) (by omega) r_attrs
 refine l_bw Tryz.func94 0 [] ?_
 rw [show decide (d ≥ 0) = decide (0 ≤ d) from rfl]
 cases e0 : (decide (0 ≤ d))
 ·exact Z
 refine Y ?_
 rw [k'5 1 (by omega) (by omega) (by omega) hd2]
 refine k'23 [] (c_attrs) rfl rfl rfl rfl rfl ?_
 cases e1 : (x.attrs.all fun k => k.may (d - 1))
 ·exact Z
 refine Y ?_
 refine k'a [] (c_u) rfl rfl rfl rfl rfl ?_
 exact Z
theorem Rs_Marshal_calls (x : Rs) (xa : D) (d : Int) (hbig : x.sz < big) (hwf : x.wf) (hx : x.R xa) (hd1 : -9223372036854775808 ≤ d) (hd2 : d < 9223372036854775808) : k'0 (cx B) 126 [.d xa, .d (.int .i64 d)] [] (if x.may d then .tup [sT x.mar, .d .nili] else .tup [sT [], .d (Er.code 8).d]) [] := by
 have hm := Rs_May_calls B x xa d hbig hx hd1 hd2
 have hlen := Rs.mar_len x
 have hlen : x.mar.length < big := by omega
 obtain ⟨z_attrs, l_attrs, rfl, r_attrs⟩ := hx
 unfold Rs.sz at hbig
 cases hc : x.may d
 ·rw [hc] at hm
  refine l_bw Tryz.func126 0 [] ?_
  refine k'2 [] (hm) rfl rfl rfl ?_
  exact Z
 rw [hc] at hm
 have hc' := hc
 unfold Rs.may at hc'
 simp only [Bool.and_eq_true, decide_eq_true_eq] at hc'
 obtain ⟨⟨hd, m_attrs⟩, hu⟩ := hc'
 obtain ⟨w_attrs, w_dropped⟩ := hwf
 unfold Rs.mar Rs.hb at hlen ⊢
 obtain ⟨a0, ha0, c0⟩ := k'2n B 1 (by omega) (by omega) z_attrs d (by omega) w_attrs m_attrs hd hd2 r_attrs (.nw 71 2) [] k'1z (by simp only [List.length_append, List.length_nil] at hlen ⊢; omega)
 rw [List.nil_append] at c0
 obtain ⟨a1, ha1, c1⟩ := wr_var B 2 x.dropped (by omega) (by omega) (by omega) (a0) (psV 1 (Kv.mars x.attrs)) ha0 (by simp only [List.length_append, List.length_nil] at hlen ⊢; omega)
 obtain ⟨cu, cs⟩ := k'21 B (s := x.u) ha1 (l := psV 1 (Kv.mars x.attrs) ++ vrV 2 x.dropped) (by simp only [List.length_append] at hlen ⊢; omega)
 generalize psV 1 (Kv.mars x.attrs) ++ vrV 2 x.dropped = o1 at c1 cu cs ⊢
 generalize psV 1 (Kv.mars x.attrs) = o0 at c0 c1
 refine l_bw Tryz.func126 0 [] ?_
 refine l_cw [] (hm) rfl rfl rfl ?_
 refine l_wr [1] (c0) k'1z ha0 ?_
 rw [show IntKind.u64.wrap (x.dropped : Int) = (x.dropped : Int) by rw [IntKind.wrap_u64]; omega]
 refine l_wr [1] (c1) ha0 ha1 ?_
 refine l_wr [1] (cu) ha1 (.inl rfl) ?_
 refine k'1f [1] (cs) rfl rfl rfl rfl rfl rfl rfl (by decide) (by simp [k'6 (.inl rfl)]) rfl rfl rfl rfl ?_
 exact Z
end
