/- Messages of three parts, and of one: what they are, their bytes, what may be, what is read. -/
import Derived.Test.YtidcjbkenpgnoaaGreatDoorMP
set_option linter.unusedSimpArgs false
set_option linter.unusedVariables false
set_option maxRecDepth 100000
namespace Go.Proofs.YtidcjbkenpgnoaaGreatDoor
open Go Go.Abs
variable (B : Fr)
section
structure Ms (S : Type) where
 ok : List UInt8 → Int → Option S
 mar : S → List UInt8
 may : S → Int → Bool
 wf : S → Prop
 sz : S → Nat
 c : Nat
 no : S
 eq : S → S → Bool
 back : Back ok mar may (fun x => sz x < big ∧ wf x)
 told : Told ok may wf sz c
 len : ∀ x, (mar x).length + 20 ≤ sz x
 self : ∀ x, eq x x = true
 none : ∀ x, eq x no = true → x = no
 nowf : wf no
 nosz : sz no ≤ c
def eqsL {S : Type} (eq : S → S → Bool) : List S → List S → Bool
 | [], [] => true
 | v :: l, w :: r => eq v w && eqsL eq l r
 | [], _ :: _ => false
 | _ :: _, [] => false
theorem eqsL_by {S : Type} (eq : S → S → Bool) (a b : List S) : eqsL eq a b = (a.length == b.length && (List.range a.length).all (byI eq a b)) :=
 k'3n eq (eqsL eq) rfl (fun _ _ _ _ => rfl) (fun _ _ => rfl) (fun _ _ => rfl) a b
theorem eqsL_self {S : Type} {eq : S → S → Bool} (h : ∀ x, eq x x = true) : ∀ l, eqsL eq l l = true
 | [] => rfl
 | v :: l => by unfold eqsL; rw [h v, eqsL_self h l]; rfl
theorem Sc.none (x : Sc) (h : x.eq noSc = true) : x = noSc := by
 obtain ⟨n, v, a, d, u⟩ := x
 unfold Sc.eq noSc at h
 simp at h
 obtain ⟨⟨⟨⟨rfl, rfl⟩, ha⟩, rfl⟩, rfl⟩ := h
 cases a with
 | nil => rfl
 | cons k l => simp [Kv.eqs] at ha
theorem Rs.none (x : Rs) (h : x.eq noRs = true) : x = noRs := by
 obtain ⟨a, d, u⟩ := x
 unfold Rs.eq noRs at h
 simp at h
 obtain ⟨⟨ha, rfl⟩, rfl⟩ := h
 cases a with
 | nil => rfl
 | cons k l => simp [Kv.eqs] at ha
def scM : Ms Sc := ⟨okSc, Sc.mar, Sc.may, Sc.wf, Sc.sz, 400, noSc, Sc.eq, Sc_back, Sc_told, Sc.mar_len, Sc.eq_self, Sc.none, ⟨by simp [noSc], by decide⟩, by decide⟩
def rsM : Ms Rs := ⟨okRs, Rs.mar, Rs.may, Rs.wf, Rs.sz, 400, noRs, Rs.eq, Rs_back, Rs_told, Rs.mar_len, Rs.eq_self, Rs.none, ⟨by simp [noRs], by decide⟩, by decide⟩
section
variable {S : Type} (m : Ms S) (n k : Nat) (h : Bool) (x : S)
def pV : List UInt8 := if h then paV n (m.mar x) else []
def pF : List Fld := if h then [paR n (m.mar x)] else []
def mayP (d : Int) : Bool := if h then m.may x d else m.eq x m.no
def pO (d : Int) : Option (Bool × S) := if h then (match m.ok (m.mar x) d with | .none => .none | some y => some (true, y)) else some (false, m.no)
theorem pV_len : (pV m n h x).length ≤ m.sz x := by
 unfold pV
 have := m.len x
 split
 ·have := k'3c n (m.mar x); omega
 ·simp
theorem sel_p : sel k (pF m n h x) = if n = k then pF m n h x else [] := sel_of (by unfold pF; split <;> simp [paR]) k
theorem in_p {tb : Nat → Nat → Bool} (ht : tb n 2 = true) : inT tb (pF m n h x) = true := by unfold pF inT; split <;> simp [isT, paR, ht]
theorem all_p (h1 : 1 ≤ n) (h2 : n ≤ 536870911) (d : Int) (hb : m.sz x < big) : all (pV m n h x) d = .ok (pF m n h x) := by
 unfold pV pF
 have := m.len x
 unfold big at hb
 split
 ·exact all_pa h1 h2 d (by omega)
 ·exact k'3e d
variable {n h x}
theorem part_p {l : List Fld} (d : Int) (hs : sel n l = pF m n h x) : k'3p (fun s => m.ok s d) m.no n l = pO m h x d := by
 unfold k'3p pO
 rw [anyL_sel, k'4n, hs]
 unfold pF
 cases h with
 | false => rfl
 | true =>
  simp only [paR, if_true, List.isEmpty_cons, Bool.not_false, List.flatMap_cons, List.flatMap_nil, List.append_nil]
  cases m.ok (m.mar x) d <;> rfl
theorem p_back (d : Int) (hf : m.sz x < big ∧ m.wf x) (hm : mayP m h x d = true) : pO m h x d = some (h, x) ∧ ∀ e, e ≤ d → mayP m h x e = false → pO m h x e = none := by
 unfold mayP at hm ⊢
 unfold pO
 cases h
 ·have hb : x = m.no := m.none x (by simpa using hm)
  subst hb
  refine ⟨rfl, fun e _ he => ?_⟩
  simp [m.self] at he
 obtain ⟨h1, h2⟩ := m.back d x hf (by simpa using hm)
 exact ⟨by simp only [if_true, h1], fun e he hn => by simp only [if_true, h2 e he (by simpa using hn)]⟩
theorem p_told {l : List Fld} {p : Bool × S} {d : Int} (hl : ∀ x ∈ l, FOk x) (h : k'3p (fun s => m.ok s d) m.no n l = some p) : mayP m p.1 p.2 d = true ∧ m.wf p.2 ∧ m.sz p.2 ≤ m.c + m.c * wt l := by
 unfold k'3p at h
 split at h
 ·split at h
  ·simp at h
  rename_i x hx
  injection h with h; subst h
  obtain ⟨i1, i2, i3⟩ := m.told d _ x hx
  have := Nat.mul_le_mul_left m.c (bytesL_wt hl n)
  exact ⟨i1, i2, by show m.sz x ≤ _; omega⟩
 ·injection h with h; subst h
  exact ⟨m.self _, m.nowf, Nat.le_trans m.nosz (Nat.le_add_right _ _)⟩
theorem ms_lt {l : List S} (h : (l.map m.sz).sum < big) : ∀ s ∈ l.map m.mar, s.length < 2 ^ 64 := fun s hs => by
 obtain ⟨k, hk, rfl⟩ := List.mem_map.1 hs
 have h1 := m.len k; have h2 := k'1h (sz := m.sz) hk
 unfold big at h; omega
theorem ms_list {l : List S} {d : Int} (hs : (l.map m.sz).sum < big) (hw : ∀ k ∈ l, m.wf k) (hm : (l.all fun k => m.may k d) = true) : mapO (fun s => m.ok s d) (l.map m.mar) = some l ∧ ∀ e, e ≤ d → (l.all fun k => m.may k e) = false → mapO (fun s => m.ok s e) (l.map m.mar) = none := m.back.list (l := l) (d := d) (fun k hk => ⟨by have := k'1h (sz := m.sz) hk; omega, hw k hk⟩) hm
end
structure Tr (P Q : Type) where
 has : Bool
 p : P
 qs : List Q
 sch : List UInt8
 u : List UInt8
def tb3 (n k : Nat) : Bool := decide (1 ≤ n) && (decide (n ≤ 3) && k == 2)
section
variable {P Q : Type} (a : Ms P) (b : Ms Q)
def trB (x : Tr P Q) : List UInt8 := pV a 1 x.has x.p ++ psV 2 (x.qs.map b.mar) ++ txV 3 x.sch
def trF (x : Tr P Q) : List Fld := pF a 1 x.has x.p ++ psF 2 (x.qs.map b.mar) ++ txF 3 x.sch
def trMar (x : Tr P Q) : List UInt8 := trB a b x ++ x.u
def trWf (x : Tr P Q) : Prop := a.wf x.p ∧ ∀ k ∈ x.qs, b.wf k
def trSz (x : Tr P Q) : Nat := 300 + a.sz x.p + (x.qs.map b.sz).sum + x.sch.length + x.u.length
def trMay (x : Tr P Q) (d : Int) : Bool := decide (0 ≤ d) && mayP a x.has x.p (d - 1) && txt x.sch && (x.qs.all fun k => b.may k (d - 1)) && k'1s tb3 x.u d
def trTell (d : Int) (l : List Fld) : Option (List UInt8 → Tr P Q) :=
 match k'3p (fun s => a.ok s (d - 1)) a.no 1 l with
 | none => none
 | some p =>
 match k'3 (fun s => b.ok s (d - 1)) 2 l with
 | none => none
 | some qs =>
 match k'1x 3 l with
 | none => none
 | some sch =>
 some fun u => ⟨p.1, p.2, qs, sch, u⟩
def trOk (s : List UInt8) (d : Int) : Option (Tr P Q) := apO (okG tb3 (trTell a b) s d)
def trNo : Tr P Q := ⟨false, a.no, [], [], []⟩
def trEq (x y : Tr P Q) : Bool := x.has == y.has && x.sch == y.sch && x.u == y.u && a.eq x.p y.p && eqsL b.eq x.qs y.qs
theorem tr_len (x : Tr P Q) : (trMar a b x).length + 20 ≤ trSz a b x := by
 have q0 := pV_len a 1 x.has x.p
 have q1 := k'40 2 x.qs fun y _ => b.len y
 have q2 := k'2b 3 x.sch
 unfold trMar trB trSz
 simp only [List.length_append]
 omega
theorem tr_back : Back (trOk a b) (trMar a b) (trMay a b) (fun x => trSz a b x < big ∧ trWf a b x) := by
 intro d x hf hm
 obtain ⟨hbig, w_p, w_qs⟩ := hf
 have hbig' := hbig
 unfold trSz big at hbig'
 have hall : ∀ d, all (trB a b x) d = .ok (trF a b x) := fun d => k'2 (k'2 (all_p a 1 x.has x.p (by omega) (by omega) d (by unfold big; omega)) (k'38 (by omega) (by omega) d (ms_lt b (by unfold big; omega)))) (all_tx (by omega) (by omega) d (by omega))
 have hinn : inT tb3 (trF a b x) = true := by
  unfold trF
  simp only [k'3l, Bool.and_eq_true]
  exact ⟨⟨in_p a 1 _ _ rfl, in_ps 2 _ rfl⟩, in_tx 3 x.sch rfl⟩
 unfold trMay at hm
 simp only [Bool.and_eq_true, decide_eq_true_eq] at hm
 obtain ⟨⟨⟨⟨hd, m_p⟩, m_sch⟩, m_qs⟩, hu⟩ := hm
 have s1 : sel 1 (trF a b x) = pF a 1 x.has x.p := by unfold trF; simp [k'b, sel_p, k'j, k'l]
 have s2 : sel 2 (trF a b x) = psF 2 (x.qs.map b.mar) := by unfold trF; simp [k'b, sel_p, k'j, k'l]
 have s3 : sel 3 (trF a b x) = txF 3 x.sch := by unfold trF; simp [k'b, sel_p, k'j, k'l]
 have htell : ∀ d, trTell a b d (trF a b x) = (match pO a x.has x.p (d - 1) with
   | none => none
   | some p =>
   match mapO (fun s => b.ok s (d - 1)) (x.qs.map b.mar) with
   | none => none
   | some qs => some fun u => ⟨p.1, p.2, qs, x.sch, u⟩) := by
  intro d
  unfold trTell
  rw [part_p a (d - 1) s1, k'19 (fun s => b.ok s (d - 1)) s2, text_of s3 m_sch]
 obtain ⟨a_p, b_p⟩ := p_back a (d - 1) ⟨by unfold big; omega, w_p⟩ m_p
 obtain ⟨a_qs, b_qs⟩ := ms_list b (by unfold big; omega) w_qs m_qs
 constructor
 ·unfold trOk trMar
  rw [k'z hd (hall d) hinn hu, htell]
  simp only [a_p, a_qs]
  rfl
 ·intro e he hn
  unfold trOk trMar
  cases hr : k'1s tb3 x.u e with
  | false => rw [k'k (hall e) he hu fun _ => hr]; rfl
  | true =>
   rcases Int.lt_or_le e 0 with h0 | h0
   ·rw [k'1z h0]; rfl
   ·rw [k'z h0 (hall e) hinn hr, htell]
    cases h_p : mayP a x.has x.p (e - 1) with
    | false => rw [b_p (e - 1) (by omega) h_p]; rfl
    | true =>
     cases h_qs : (x.qs.all fun k => b.may k (e - 1)) with
     | false => rw [b_qs (e - 1) (by omega) h_qs]; cases pO a x.has x.p (e - 1) <;> rfl
     | true =>
      exfalso
      unfold trMay at hn
      simp [h0, hr, m_sch, h_p, h_qs] at hn
theorem tr_told : Told (trOk a b) (trMay a b) (trWf a b) (trSz a b) (a.c + b.c + 400) := by
 intro d s x h
 obtain ⟨f, u, h1, rfl⟩ := k'2f h
 obtain ⟨l, -, h2, -, h4, hd, hf, hw⟩ := k'2z h1
 dsimp only at h2 h4 hw
 unfold trTell at h2
 split at h2
 ·simp at h2
 rename_i p g_p
 split at h2
 ·simp at h2
 rename_i qs g_qs
 split at h2
 ·simp at h2
 rename_i sch g_sch
 injection h2 with h2
 subst h2
 obtain ⟨p_p, q_p, r_p⟩ := p_told a hf g_p
 obtain ⟨p_qs, q_qs, r_qs⟩ := b.told.parts hf g_qs
 obtain ⟨p_sch, l_sch⟩ := k'3s hf g_sch
 refine ⟨?_, ⟨q_p, q_qs⟩, ?_⟩
 ·unfold trMay
  simp only [Bool.and_eq_true]
  exact ⟨⟨⟨⟨decide_eq_true hd, p_p⟩, p_sch⟩, p_qs⟩, h4⟩
 ·unfold trSz
  dsimp only
  have e1 : a.c * wt (k'f tb3 l) ≤ a.c * s.length := Nat.mul_le_mul_left _ (by omega)
  have e2 : b.c * wt (k'f tb3 l) ≤ b.c * s.length := Nat.mul_le_mul_left _ (by omega)
  rw [Nat.add_mul, Nat.add_mul]
  omega
theorem trEq_self (x : Tr P Q) : trEq a b x x = true := by unfold trEq; simp [a.self, eqsL_self b.self]
theorem tr_none (x : Tr P Q) (h : trEq a b x (trNo a) = true) : x = trNo a := by
 obtain ⟨s, p, q, c, u⟩ := x
 unfold trEq trNo at h
 simp at h
 obtain ⟨⟨⟨⟨rfl, rfl⟩, rfl⟩, hp⟩, hq⟩ := h
 rw [a.none p hp]
 cases q with
 | nil => rfl
 | cons k l => simp [eqsL] at hq
def trM : Ms (Tr P Q) := ⟨trOk a b, trMar a b, trMay a b, trWf a b, trSz a b, a.c + b.c + 400, trNo a, trEq a b, tr_back a b, tr_told a b, tr_len a b, trEq_self a b, tr_none a b, ⟨a.nowf, by simp [trNo]⟩, by have := a.nosz; unfold trSz trNo; simp; omega⟩
end
theorem Me.none (x : Me) (h : x.eq noMe = true) : x = noMe := by
 obtain ⟨n, e, t, k, ⟨nb, hi, eh, su, te, mo, iu⟩, ms, u⟩ := x
 unfold Me.eq In.eq noMe noIn at h
 simp at h
 obtain ⟨⟨⟨⟨⟨⟨rfl, rfl⟩, rfl⟩, rfl⟩, hd⟩, hm⟩, rfl⟩ := h
 have c1 : nb = [] := by cases nb with | nil => rfl | cons k l => simp [Nb.eqs] at hd
 have c2 : hi = [] := by cases hi with | nil => rfl | cons k l => simp [Hi.eqs] at hd
 have c3 : eh = [] := by cases eh with | nil => rfl | cons k l => simp [Eh.eqs] at hd
 have c4 : su = [] := by cases su with | nil => rfl | cons k l => simp [Su.eqs] at hd
 have c5 : ms = [] := by cases ms with | nil => rfl | cons k l => simp [Kv.eqs] at hm
 subst c1; subst c2; subst c3; subst c4; subst c5
 simp [Nb.eqs, Hi.eqs, Eh.eqs, Su.eqs] at hd
 simp_all [noMe, noIn]
def meM : Ms Me := ⟨okMe, Me.mar, Me.may, Me.wf, Me.sz, 1800, noMe, Me.eq, Me_back, Me_told, Me.mar_len, Me.eq_self, Me.none, ⟨⟨by simp [noMe, noIn], by simp [noMe, noIn], by simp [noMe, noIn], by simp [noMe, noIn], by decide, by decide⟩, by simp [noMe]⟩, by decide⟩
abbrev Sm := Tr Sc Me
abbrev Rm := Tr Rs Sm
def smM : Ms Sm := trM scM meM
def rmM : Ms Rm := trM rsM smM
structure Bt where
 rs : List Rm
 u : List UInt8
def tb1 (n k : Nat) : Bool := n == 1 && k == 2
def Bt.hb (x : Bt) : List UInt8 := psV 1 (x.rs.map rmM.mar)
def Bt.mar (x : Bt) : List UInt8 := x.hb ++ x.u
def Bt.wf (x : Bt) : Prop := ∀ k ∈ x.rs, rmM.wf k
def Bt.sz (x : Bt) : Nat := 300 + (x.rs.map rmM.sz).sum + x.u.length
def Bt.may (x : Bt) : Bool := (x.rs.all fun k => rmM.may k 31) && k'1s tb1 x.u 32
def tellBt (d : Int) (l : List Fld) : Option (List UInt8 → Bt) :=
 match k'3 (fun s => rmM.ok s (d - 1)) 1 l with
 | none => none
 | some rs => some fun u => ⟨rs, u⟩
def okBt (s : List UInt8) : Option Bt := apO (okG tb1 tellBt s 32)
def Bt.eq (x y : Bt) : Bool := x.u == y.u && eqsL rmM.eq x.rs y.rs
theorem Bt.eq_self (x : Bt) : x.eq x = true := by unfold Bt.eq; rw [eqsL_self rmM.self]; simp
theorem Bt.mar_len (x : Bt) : x.mar.length + 20 ≤ x.sz := by
 have q1 := k'40 1 x.rs fun y _ => rmM.len y
 unfold Bt.mar Bt.hb Bt.sz
 simp only [List.length_append]
 omega
theorem Bt_back {x : Bt} (hbig : x.sz < big) (hw : x.wf) (hm : x.may = true) : okBt x.mar = some x := by
 unfold Bt.sz big at hbig
 unfold Bt.may at hm
 simp only [Bool.and_eq_true] at hm
 obtain ⟨m_rs, hu⟩ := hm
 obtain ⟨a_rs, -⟩ := ms_list rmM (d := 31) (by unfold big; omega) hw m_rs
 unfold okBt Bt.mar Bt.hb
 rw [k'z (by decide) (k'38 (by omega) (by omega) 32 (ms_lt rmM (by unfold big; omega))) (in_ps 1 _ rfl) hu]
 unfold tellBt
 rw [k'19 (fun s => rmM.ok s (32 - 1)) (ms := x.rs.map rmM.mar) (by rw [k'j]; rfl)]
 rw [show ((32 : Int) - 1) = 31 from rfl, a_rs]
 rfl
end
section
def Rs.d (x : Rs) : D := .agg [slD (Kv.ds x.attrs), .int .u32 x.dropped, .str x.u]
def Rs.R (x : Rs) (a : D) : Prop := ∃ (z_attrs : Bool) (l_attrs : List D), a = .agg [.sl z_attrs l_attrs, .int .u32 x.dropped, .str x.u] ∧ Kv.Rs x.attrs l_attrs
def RsSh (x : D) : Prop := ∃ (a0 : Bool) (a1 : List D) (a2 : Nat) (a3 : List UInt8), x = .agg [.sl a0 a1, .int .u32 a2, .str a3]
theorem Rs.R_sh {x : Rs} {a : D} (h : x.R a) : RsSh a := by
 obtain ⟨z_attrs, l_attrs, h, -⟩ := h
 exact ⟨_, _, _, _, h⟩
theorem Rs.d_R (x : Rs) : x.R x.d := ⟨_, _, rfl, Kv.ds_R _⟩
theorem Rs.Rs_sh {l : List Rs} {xs : List D} (h : RsOf Rs.R l xs) : ∀ x ∈ xs, RsSh x := fun x hx => by
 obtain ⟨v, -, r⟩ := h.mem hx
 exact Rs.R_sh r
theorem Rs_Same_calls (x y : Rs) (xa ya : D) (hbig : x.sz < big) (hx : x.R xa) (hy : y.R ya) : k'0 (cx B) 95 [.d xa, .d ya] [] (.d (.bool (x.eq y))) [] := by
 obtain ⟨z_attrs, l_attrs, rfl, r_attrs⟩ := hx
 obtain ⟨y_attrs, m_attrs, rfl, s_attrs⟩ := hy
 unfold Rs.sz at hbig
 have c_attrs := k'1a B (a := x.attrs) (b := y.attrs) z_attrs y_attrs (by omega) r_attrs s_attrs
 rw [show x.eq y = ((x.dropped == y.dropped) && (x.u == y.u) && (Kv.eqs x.attrs y.attrs)) by unfold Rs.eq; ac_rfl]
 refine l_bw Tryz.func95 0 [] ?_
 rw [ibeq x.dropped y.dropped]
 cases e0 : (x.dropped == y.dropped)
 ·exact Z
 refine Y ?_
 cases e1 : (x.u == y.u)
 ·exact Z
 refine Y ?_
 refine k'8 [] (c_attrs) rfl rfl rfl rfl rfl ?_
 exact Z
theorem Rs_May_calls (x : Rs) (xa : D) (d : Int) (hbig : x.sz < big) (hx : x.R xa) (hd1 : -9223372036854775808 ≤ d) (hd2 : d < 9223372036854775808) : k'0 (cx B) 96 [.d xa, .d (.int .i64 d)] [] (.d (.bool (x.may d))) [] := by
 obtain ⟨z_attrs, l_attrs, rfl, r_attrs⟩ := hx
 unfold Rs.sz at hbig
 unfold Rs.may
 by_cases hd0 : 0 ≤ d
 rotate_left
 ·rw [show decide (0 ≤ d) = false from decide_eq_false hd0]
  refine l_bw Tryz.func96 0 [] ?_
  rw [show decide (d ≥ 0) = false from decide_eq_false hd0]
  exact Z
 have c_u := k't B 142 tbD (tbD_calls B) x.u d (by omega) (by omega) hd2
 have c_attrs := k'1f B (a := x.attrs) z_attrs (d - 1) (by omega) (by omega) (by omega) r_attrs
 refine l_bw Tryz.func96 0 [] ?_
 rw [show decide (d ≥ 0) = decide (0 ≤ d) from rfl]
 cases e0 : (decide (0 ≤ d))
 ·exact Z
 refine Y ?_
 rw [k'11 1 (by omega) (by omega) (by omega) hd2]
 refine k'1w [] (c_attrs) rfl rfl rfl rfl rfl ?_
 cases e1 : (x.attrs.all fun k => k.may (d - 1))
 ·exact Z
 refine Y ?_
 refine k'8 [] (c_u) rfl rfl rfl rfl rfl ?_
 exact Z
theorem Rs_Marshal_calls (x : Rs) (xa : D) (d : Int) (hbig : x.sz < big) (hwf : x.wf) (hx : x.R xa) (hd1 : -9223372036854775808 ≤ d) (hd2 : d < 9223372036854775808) : k'0 (cx B) 128 [.d xa, .d (.int .i64 d)] [] (if x.may d then .tup [sT x.mar, .d .nili] else .tup [sT [], .d (Er.code 8).d]) [] := by
 have hm := Rs_May_calls B x xa d hbig hx hd1 hd2
 have hlen := Rs.mar_len x
 have hlen : x.mar.length < big := by omega
 obtain ⟨z_attrs, l_attrs, rfl, r_attrs⟩ := hx
 unfold Rs.sz at hbig
 cases hc : x.may d
 ·rw [hc] at hm
  refine l_bw Tryz.func128 0 [] ?_
  refine k'1 [] (hm) rfl rfl rfl ?_
  exact Z
 rw [hc] at hm
 have hc' := hc
 unfold Rs.may at hc'
 simp only [Bool.and_eq_true, decide_eq_true_eq] at hc'
 obtain ⟨⟨hd, m_attrs⟩, hu⟩ := hc'
 obtain ⟨w_attrs, w_dropped⟩ := hwf
 unfold Rs.mar Rs.hb at hlen ⊢
 obtain ⟨a0, ha0, c0⟩ := k'34 B 1 (by omega) (by omega) z_attrs d (by omega) w_attrs m_attrs hd hd2 r_attrs (.nw 71 2) [] k'22 (by simp only [List.length_append, List.length_nil] at hlen ⊢; omega)
 rw [List.nil_append] at c0
 obtain ⟨a1, ha1, c1⟩ := wr_var B 2 x.dropped (by omega) (by omega) (by omega) (a0) (psV 1 (Kv.mars x.attrs)) ha0 (by simp only [List.length_append, List.length_nil] at hlen ⊢; omega)
 obtain ⟨cu, cs⟩ := k'26 B (s := x.u) ha1 (l := psV 1 (Kv.mars x.attrs) ++ vrV 2 x.dropped) (by simp only [List.length_append] at hlen ⊢; omega)
 generalize psV 1 (Kv.mars x.attrs) ++ vrV 2 x.dropped = o1 at c1 cu cs ⊢
 generalize psV 1 (Kv.mars x.attrs) = o0 at c0 c1
 refine l_bw Tryz.func128 0 [] ?_
 refine l_cw [] (hm) rfl rfl rfl ?_
 refine l_wr [1] (c0) k'22 ha0 ?_
 rw [show IntKind.u64.wrap (x.dropped : Int) = (x.dropped : Int) by rw [IntKind.wrap_u64]; omega]
 refine l_wr [1] (c1) ha0 ha1 ?_
 refine l_wr [1] (cu) ha1 (.inl rfl) ?_
 refine k'1g [1] (cs) rfl rfl rfl rfl rfl rfl rfl (by decide) (by simp [k'5 (.inl rfl)]) rfl rfl rfl rfl ?_
 exact Z
theorem part_Rs_calls : partP B 166 Rs.d := k'2s B Tryz.func166
theorem okRs_rd (s : List UInt8) (d : Int) : okRs s d = (match k'd s d, k'3 (fun s => okK s (d - 1)) 1 (knB tbD s d) with
 | none, some attrs => some ⟨attrs, (k'6 (knB tbD s d) 2).n % 4294967296, unB tbD s d⟩
 | _, _ => none) := by
 unfold okRs
 rw [k'4a]
 cases k'd s d with
 | some e => rfl
 | none =>
  unfold tellRs
  simp only
  cases k'3 (fun s => okK s (d - 1)) 1 (knB tbD s d) with
  | none => rfl
  | some attrs =>
   rfl
theorem Rs_read (hB : BOk B) (s : List UInt8) (d : Int) (hl : s.length < big) (hd1 : -9223372036854775808 ≤ d) (hd2 : d < 9223372036854775808) :
  RdZ B 113 Rs.d noRs (okRs s d) s d ∧ (∀ e0, k'd s d = some e0 → k'0 (cx B) 113 [sT s, .d (.int .i64 d)] [] (.tup [.d noRs.d, .d e0.d]) []) := by
 have h1 := k'o B hB 142 tbD (tbD_calls B) s d hl hd1 hd2
 have hk : LOk (knB tbD s d) := k'e tbD s d hl
 have hm := k'1p hk
 obtain ⟨vs_attrs, e1, c_attrs, t1⟩ := k'15 B hB (fun s => okK s (d - 1)) Kv.sh noKV 168 [] (k'd s d) (unB tbD s d) d s.length (knB tbD s d) 1 hk (fun h => by have := k'1u h; omega) hd2 (fun x hx hn => k'16 B hB x.s (d - 1) (lok_s hk hx) (by have := k'2e hx; omega) (by omega))
 have hein : ∀ x, e1 = some x → EIn s.length x := t1.ein (fun x hx => k'n hx)
 have main : k'0 (cx B) 113 [sT s, .d (.int .i64 d)] [] (.tup [.d (orD e1 (.agg [slD (vs_attrs.map KVs.d), .int .u32 ((k'6 (knB tbD s d) 2).n % 4294967296 : Nat), .str (unB tbD s d)]) noRs.d), .d (eD e1)]) [] := by
  clear hein t1
  refine l_bw Tryz.func113 0 [] ?_
  refine l_cw [] (h1) rfl rfl rfl ?_
  refine k'3q (i0 := 10) (z := 11) (t0 := 7) rfl (by decide) rfl rfl rfl rfl rfl rfl rfl rfl rfl rfl ?_
  refine Y ?_
  refine x_cw [1] (c_attrs) rfl rfl rfl ?_
  refine x_cw [1] (k'9 B e1 (unB tbD s d) d s.length (knB tbD s d) 2 hm) rfl rfl rfl ?_
  rw [u32w]
  cases e1 with
  | none =>
   exact Z
  | some er =>
   cases er <;> (
   exact Z)
 constructor
 ·rw [okRs_rd]
  cases e1 with
  | none =>
   obtain ⟨k0, a_attrs, g_attrs, v_attrs⟩ := t1.ok
   rw [k0, g_attrs]
   subst v_attrs
   rw [ks_map a_attrs] at main
   exact main
  | some er =>
   have hno : (match k'd s d, k'3 (fun s => okK s (d - 1)) 1 (knB tbD s d) with
    | none, some attrs => some (⟨attrs, (k'6 (knB tbD s d) 2).n % 4294967296, unB tbD s d⟩ : Rs)
    | _, _ => none) = none := by
    cases hr : k'd s d with
    | some x => rfl
    | none =>
     rw [hr] at t1
     cases hp0 : k'3 (fun s => okK s (d - 1)) 1 (knB tbD s d) with
     | none => rfl
     | some a0 =>
      rw [hp0] at t1
      have := t1.get.2; simp at this
   rw [hno]
   exact ⟨er, hein er rfl, main⟩
 ·intro e0 he
  rw [he] at t1
  have k1 := t1.keep
  subst k1
  exact main
end
section
theorem IndexB_calls (z : Bool) (ns : List Bool) (x : Bool) (hl : ns.length < 1000) : k'0 (cx B) 332 [.d (.sl z (ns.map D.bool)), .d (.bool x)] [] (.d (.int .i64 (match ns.findIdx? (· == x) with | some i => (i : Int) | none => -1))) [] := by
 have hlen : (ns.map D.bool).length = ns.length := by simp
 refine l_bw Tryz.func332 0 [] ?_
 rw [hlen]
 refine k'14 (fun i : Nat => ns.length - i) (fun i => [(0, .d (.sl z (ns.map D.bool))), (1, .d (.bool x)), (7, iT ns.length), (8, iT i)]) (fun _ => []) (fun i => i ≤ ns.length ∧ ns.findIdx? (· == x) = ((ns.drop i).findIdx? (· == x)).map (· + i)) 0 ⟨by omega, by simp⟩ ⟨rfl, rfl, rfl, rfl, trivial⟩ rfl 0 rfl (fun _ => rfl) (fun _ => rfl) (fun _ => rfl) ?_
 rintro i ⟨i1, i2⟩
 refine Y ?_
 by_cases hlt : i < ns.length
 ·rw [show decide ((i : Int) < ns.length) = true from decide_eq_true (by omega)]
  obtain ⟨y, hy⟩ : ∃ y, ns[i]? = some y := ⟨_, List.getElem?_eq_getElem hlt⟩
  have hdy : (ns.map D.bool)[i]? = some (D.bool y) := by rw [List.getElem?_map, hy]; rfl
  have hdr : ns.drop i = y :: ns.drop (i + 1) := by
   rw [List.drop_eq_getElem_cons hlt]; rw [List.getElem?_eq_getElem hlt] at hy; injection hy with hy; rw [hy]
  rw [hdr, List.findIdx?_cons] at i2
  refine Y ?_
  refine k'4 (.indexAddr (k := .i64) (n := i) (es := ns.map D.bool) (u := D.bool y) rfl rfl rfl rfl (.inl ⟨_, rfl⟩) rfl (by omega) (by simpa using hdy) rfl (by decide)) rfl rfl ?_
  refine Y ?_
  cases he : (x == y)
  rotate_left
  ·have he := eq_of_beq he
   subst he
   refine Y ?_
   rw [i2]
   simp only [beq_self_eq_true, cond_true, if_true, Option.map_some, Nat.zero_add]
   exact k's rfl
  have he2 : (y == x) = false := by cases x <;> cases y <;> simp_all
  refine Y ?_
  rw [wS i (by omega)]
  refine ⟨i + 1, by omega, ⟨by omega, ?_⟩, ⟨rfl, rfl, rfl, rfl, trivial⟩, rfl, k'28 rfl⟩
  rw [i2, he2]
  simp only [Bool.false_eq_true, if_false, Option.map_map]
  congr 1
  funext k; simp; omega
 ·rw [show decide ((i : Int) < ns.length) = false from decide_eq_false (by omega)]
  have hge : i = ns.length := by omega
  subst hge
  rw [List.drop_length] at i2
  rw [i2]
  exact Z
theorem k'1k (a b c : Bool) : k'0 (cx B) 251 [.d (.sl false [.bool a, .bool b, .bool c]), .d (.bool false)] [] (.d (.bool (!(a && (b && c))))) [] := by
 have h1 := IndexB_calls B false [a, b, c] false (by simp)
 have hc : decide ((match [a, b, c].findIdx? (· == false) with | some i => (i : Int) | none => -1) ≥ 0) = !(a && (b && c)) := by cases a <;> cases b <;> cases c <;> rfl
 generalize (match [a, b, c].findIdx? (· == false) with | some i => (i : Int) | none => -1) = k at *
 refine l_bw Tryz.func251 0 [] ?_
 refine l_cw [] (h1) rfl rfl rfl ?_
 rw [hc]
 exact k's rfl
theorem k'g (k : Int) : k'0 (cx B) 213 [.d (.int .i64 k)] [] (iT (numK k)) [] := by
 refine l_bw Tryz.func213 0 [] ?_
 cases h1 : (k == 1) with
 | true =>
  have e := eq_of_beq h1
  subst e
  exact Z
 | false =>
 have e1 := ne_of_beq_false h1
 refine Y ?_
 cases h2 : (k == 2) with
 | true =>
  have e := eq_of_beq h2
  subst e
  exact Z
 | false =>
 have e2 := ne_of_beq_false h2
 refine Y ?_
 cases h3 : (k == 3) with
 | true =>
  have e := eq_of_beq h3
  subst e
  exact Z
 | false =>
 have e3 := ne_of_beq_false h3
 refine Y ?_
 cases h4 : (k == 4) with
 | true =>
  have e := eq_of_beq h4
  subst e
  exact Z
 | false =>
 have e4 := ne_of_beq_false h4
 refine Y ?_
 cases h5 : (k == 5) with
 | true =>
  have e := eq_of_beq h5
  subst e
  exact Z
 | false =>
 have e5 := ne_of_beq_false h5
 refine Y ?_
 rw [show numK k = 0 by unfold numK; rw [if_neg e1, if_neg e2, if_neg e3, if_neg e4, if_neg e5]]
 exact k's rfl
theorem numK_inj {k : Int} (h1 : 1 ≤ k) (h2 : k ≤ 5) : kindK (numK k) = k := by
 have : k = 1 ∨ k = 2 ∨ k = 3 ∨ k = 4 ∨ k = 5 := by omega
 rcases this with rfl | rfl | rfl | rfl | rfl <;> rfl
theorem kindOf_calls (n : Nat) : k'0 (cx B) 216 [iT n] [] (.d (.int .i64 (kindK n))) [] := by
 refine l_bw Tryz.func216 0 [] ?_
 refine k'14 (fun k : Nat => 6 - k) (fun k => [(0, iT n), (3, iT k)]) (fun _ => []) (fun k => 1 ≤ k ∧ k ≤ 6 ∧ ∀ j : Nat, 1 ≤ j → j < k → numK j ≠ n) 1 ⟨by omega, by omega, fun j h1 h2 => by omega⟩ ⟨rfl, rfl, trivial⟩ rfl 0 rfl (fun _ => rfl) (fun _ => rfl) (fun _ => rfl) ?_
 rintro k ⟨k1, k2, k3⟩
 refine Y ?_
 by_cases hlt : k ≤ 5
 ·rw [show decide ((k : Int) ≤ 5) = true from decide_eq_true (by omega)]
  have hc := k'g B k
  refine Y ?_
  refine l_cw [] (hc) rfl rfl rfl ?_
  rw [ibeq]
  cases he : (numK k == n)
  rotate_left
  ·have he := eq_of_beq he
   rw [← he, numK_inj (by omega) (by omega)]
   exact Z
  have he := ne_of_beq_false he
  refine Y ?_
  rw [wS k (by omega)]
  exact ⟨k + 1, by omega, ⟨by omega, by omega, fun j h1 h2 => by
   rcases Nat.lt_or_ge j k with g | g
   ·exact k3 j h1 g
   ·obtain rfl : j = k := by omega
    exact he⟩, ⟨rfl, rfl, trivial⟩, rfl, k'28 rfl⟩
 ·rw [show decide ((k : Int) ≤ 5) = false from decide_eq_false (by omega)]
  have e1 : 5 ≠ n := k3 1 (by omega) (by omega)
  have e2 : 7 ≠ n := k3 2 (by omega) (by omega)
  have e3 : 9 ≠ n := k3 3 (by omega) (by omega)
  have e4 : 10 ≠ n := k3 4 (by omega) (by omega)
  have e5 : 11 ≠ n := k3 5 (by omega) (by omega)
  rw [show kindK n = 0 by unfold kindK; rw [if_neg (Ne.symm e1), if_neg (Ne.symm e2), if_neg (Ne.symm e3), if_neg (Ne.symm e4), if_neg (Ne.symm e5)]]
  exact Z
theorem tbM_calls (n k : Nat) : k'0 (cx B) 198 [iT n, iT k] [] (.d (.bool (tbM n k))) [] := by
 have h := kindOf_calls B n
 have hR : tbM n k = ((k : Int) == 2 && ((decide ((n : Int) ≥ 1) && decide ((n : Int) ≤ 3)) || ((n : Int) == 12 || decide (kindK n > 0)))) := by
  unfold tbM
  rw [show ((k : Int) == 2) = (k == 2) from ibeq k 2, show ((n : Int) == 12) = (n == 12) from ibeq n 12, show decide ((n : Int) ≥ 1) = decide (1 ≤ n) by congr 1; apply propext; omega, show decide ((n : Int) ≤ 3) = decide (n ≤ 3) by congr 1; apply propext; omega]
 rw [hR]
 clear hR
 refine l_bw Tryz.func198 0 [] ?_
 cases e0 : ((k : Int) == 2)
 ·exact Z
 refine Y ?_
 cases e1 : decide ((n : Int) ≥ 1)
 ·refine Y ?_
  cases e3 : ((n : Int) == 12)
  rotate_left
  ·exact Z
  refine Y ?_
  refine k'8 [] (h) rfl rfl rfl rfl rfl ?_
  exact Z
 refine Y ?_
 cases e2 : decide ((n : Int) ≤ 3)
 rotate_left
 ·exact Z
 refine Y ?_
 cases e3 : ((n : Int) == 12)
 rotate_left
 ·exact Z
 refine Y ?_
 refine k'8 [] (h) rfl rfl rfl rfl rfl ?_
 exact Z
theorem inner_calls (k : Int) : k'0 (cx B) 260 [.d (.int .i64 k)] [] (.d (.fn 352 [.box [.int .i64 k]])) [] := by
 refine l_b0 Tryz.func260 0 [] ?_
 exact Z
theorem innerT (k : Int) : TblC B 352 [.box [.int .i64 k]] (tbI k) := fun n kd => by
 show k'0 (cx B) 352 [iT n, iT kd, .d (.box [.int .i64 k])] [] (.d (.bool (tbI k n kd))) []
 cases h3 : ((n : Int) == 3)
 rotate_left
 ·have e : n = 3 := by have := eq_of_beq h3; omega
  subst e
  cases hk : (k != 2)
  rotate_left
  ·have hk' : (k == 2) = false := by rw [← Bool.not_inj_iff]; simpa [bne] using hk
   rw [show tbI k 3 kd = (kd == 0 && k == 2) from rfl, hk', Bool.and_false]
   refine l_bw Tryz.func352 0 [] ?_
   rw [hk]
   exact Z
  have hk' : k = 2 := by simpa [bne] using hk
  subst hk'
  rw [show tbI 2 3 kd = ((kd : Int) == 0) by rw [show ((kd : Int) == 0) = (kd == 0) from ibeq kd 0]; show (kd == 0 && true) = _; rw [Bool.and_true]]
  refine l_bw Tryz.func352 0 [] ?_
  cases e0 : ((kd : Int) == 0)
  rotate_left
  ·exact Z
  exact Z
 cases h2 : ((n : Int) == 2)
 rotate_left
 ·have e : n = 2 := by have := eq_of_beq h2; omega
  subst e
  rw [show tbI k 2 kd = ((kd : Int) == 0 && (decide (k ≥ 2) && decide (k ≤ 4))) by rw [show ((kd : Int) == 0) = (kd == 0) from ibeq kd 0]; rfl]
  refine l_bw Tryz.func352 0 [] ?_
  cases e0 : ((kd : Int) == 0)
  ·exact Z
  refine Y ?_
  cases e1 : decide (k ≥ 2)
  ·exact Z
  exact Z
 have n3 : n ≠ 3 := by have := ne_of_beq_false h3; omega
 have n2 : n ≠ 2 := by have := ne_of_beq_false h2; omega
 cases h1 : ((n : Int) == 1)
 rotate_left
 ·have e : n = 1 := by have := eq_of_beq h1; omega
  subst e
  rw [show tbI k 1 kd = ((kd : Int) == 2) from (ibeq kd 2).symm]
  refine l_b0 Tryz.func352 0 [] ?_
  exact Z
 have n1 : n ≠ 1 := by have := ne_of_beq_false h1; omega
 rw [show tbI k n kd = false by unfold tbI; simp [n1, n2, n3]]
 refine l_bw Tryz.func352 0 [] ?_
 rw [h3]
 refine Y ?_
 rw [h2]
 refine Y ?_
 rw [h1]
 exact Z
/-! Metrics as data. -/
def Me.d (x : Me) : D := .agg [.str x.name, .str x.desc, .str x.unit, .int .i64 x.kind, .int .i32 x.dat.temp, .bool x.dat.mono, slD (x.dat.nbs.map Nb.d), slD (x.dat.his.map Hi.d), slD (x.dat.ehs.map Eh.d), slD (x.dat.sus.map Su.d), slD (Kv.ds x.mets), .str x.dat.u, .str x.u]
def Me.R (x : Me) (a : D) : Prop := ∃ (z_nbs : Bool) (l_nbs : List D) (z_his : Bool) (l_his : List D) (z_ehs : Bool) (l_ehs : List D) (z_sus : Bool) (l_sus : List D) (z_mets : Bool) (l_mets : List D), a = .agg [.str x.name, .str x.desc, .str x.unit, .int .i64 x.kind, .int .i32 x.dat.temp, .bool x.dat.mono, .sl z_nbs l_nbs, .sl z_his l_his, .sl z_ehs l_ehs, .sl z_sus l_sus, .sl z_mets l_mets, .str x.dat.u, .str x.u] ∧ RsOf Nb.R x.dat.nbs l_nbs ∧ RsOf Hi.R x.dat.his l_his ∧ RsOf Eh.R x.dat.ehs l_ehs ∧ RsOf Su.R x.dat.sus l_sus ∧ Kv.Rs x.mets l_mets
def MeSh (x : D) : Prop := ∃ (a0 a1 a2 : List UInt8) (a3 a4 : Int) (a5 a6 : Bool) (a7 : List D) (a8 : Bool) (a9 : List D) (a10 : Bool) (a11 : List D) (a12 : Bool) (a13 : List D) (a14 : Bool) (a15 : List D) (a16 a17 : List UInt8), x = .agg [.str a0, .str a1, .str a2, .int .i64 a3, .int .i32 a4, .bool a5, .sl a6 a7, .sl a8 a9, .sl a10 a11, .sl a12 a13, .sl a14 a15, .str a16, .str a17]
theorem Me.R_sh {x : Me} {a : D} (h : x.R a) : MeSh a := by
 obtain ⟨z_nbs, l_nbs, z_his, l_his, z_ehs, l_ehs, z_sus, l_sus, z_mets, l_mets, h, -⟩ := h
 exact ⟨_, _, _, _, _, _, _, _, _, _, _, _, _, _, _, _, _, _, h⟩
theorem Me.d_R (x : Me) : x.R x.d := ⟨_, _, _, _, _, _, _, _, _, _, rfl, RsOf.map Nb.d_R _, RsOf.map Hi.d_R _, RsOf.map Eh.d_R _, RsOf.map Su.d_R _, Kv.ds_R _⟩
theorem Me.Rs_sh {l : List Me} {xs : List D} (h : RsOf Me.R l xs) : ∀ x ∈ xs, MeSh x := fun x hx => by
 obtain ⟨v, -, r⟩ := h.mem hx
 exact Me.R_sh r
def bareM (k : Int) (x : In) : Bool := decide (0 ≤ k) && decide (k ≤ 5) && bareI k x && (if k = 0 then x.isNo else true)
theorem mayOn_bare (k : Int) (x : In) (e : Int) : mayOn k x e = (bareM k x && (!decide (k > 0) || mayI k x e)) := by
 unfold mayOn bareM
 by_cases h0 : k = 0
 ·subst h0; simp
 ·rw [if_neg h0, if_neg h0]
  by_cases h1 : 0 ≤ k
  ·rw [decide_eq_true (show k > 0 by omega)]; simp
  ·rw [decide_eq_false h1]; simp
theorem len0 {α : Type} {R : α → D → Prop} {l : List α} {xs : List D} (h : RsOf R l xs) : ((xs.length : Int) == 0) = l.isEmpty := by
 rw [h.1]
 cases l with
 | nil => rfl
 | cons a l => rw [show (a :: l).isEmpty = false from rfl]; simp; omega
set_option maxHeartbeats 4000000 in
theorem mbare_calls (x : Me) (xa : D) (hx : x.R xa) : k'0 (cx B) 196 [.d xa] [] (.d (.bool (bareM x.kind x.dat))) [] := by
 obtain ⟨z_nbs, l_nbs, z_his, l_his, z_ehs, l_ehs, z_sus, l_sus, z_mets, l_mets, rfl, r_nbs, r_his, r_ehs, r_sus, r_mets⟩ := hx
 have q1 := len0 r_nbs
 have q2 := len0 r_his
 have q3 := len0 r_ehs
 have q4 := len0 r_sus
 generalize hR : bareM x.kind x.dat = R
 unfold bareM bareI In.isNo at hR
 by_cases h0 : x.kind < 0 ∨ 5 < x.kind
 ·rw [show R = false from by
   rw [← hR]
   rcases h0 with h0 | h0
   ·rw [decide_eq_false (show ¬ (0 ≤ x.kind) by omega)]; simp
   ·rw [decide_eq_false (show ¬ (x.kind ≤ 5) by omega)]; simp]
  refine l_bw Tryz.func196 0 [] ?_
  rw [q2, q3, q4]
  refine k'4 (StepE.buildObj (es := [.bool x.dat.his.isEmpty, .bool x.dat.ehs.isEmpty, .bool x.dat.sus.isEmpty]) rfl rfl rfl rfl rfl rfl (by intro x hx; simp at hx; rcases hx with rfl | rfl | rfl <;> rfl) rfl (by simp) (by decide)) rfl rfl ?_
  refine k'4 (StepE.moveSlo (.inr rfl) rfl) rfl rfl ?_
  refine Y ?_
  rw [show (x.kind == 0) = false by simp; omega]
  refine Y ?_
  rw [show (x.kind == 2) = false by simp; omega]
  refine Y ?_
  rw [show (x.kind == 1) = false by simp; omega]
  refine Y ?_
  rw [show (x.kind == 3) = false by simp; omega]
  refine Y ?_
  rw [show (x.kind == 4) = false by simp; omega]
  refine Y ?_
  rw [show (x.kind == 5) = false by simp; omega]
  exact Z
 have hk : x.kind = 0 ∨ x.kind = 1 ∨ x.kind = 2 ∨ x.kind = 3 ∨ x.kind = 4 ∨ x.kind = 5 := by omega
 obtain ⟨name, desc, unit, kind, dat, mets, u⟩ := x
 obtain ⟨nbs, his, ehs, sus, temp, mono, iu⟩ := dat
 dsimp only at *
 rcases hk with rfl | rfl | rfl | rfl | rfl | rfl
 ·-- kind 0
  rw [show R = (nbs.isEmpty && ((temp == 0) && ((!mono) && ((iu == []) && (his.isEmpty && (ehs.isEmpty && sus.isEmpty)))))) from by rw [← hR]; cases nbs.isEmpty <;> cases his.isEmpty <;> cases ehs.isEmpty <;> cases sus.isEmpty <;> cases (temp == 0) <;> cases mono <;> simp]
  refine l_bw Tryz.func196 0 [] ?_
  rw [q2, q3, q4]
  refine k'4 (StepE.buildObj (es := [.bool his.isEmpty, .bool ehs.isEmpty, .bool sus.isEmpty]) rfl rfl rfl rfl rfl rfl (by intro x hx; simp at hx; rcases hx with rfl | rfl | rfl <;> rfl) rfl (by simp) (by decide)) rfl rfl ?_
  refine k'4 (StepE.moveSlo (.inr rfl) rfl) rfl rfl ?_
  refine Y ?_
  rw [q1]
  cases c_4 : nbs.isEmpty
  ·exact Z
  refine Y ?_
  cases c_6 : (temp == 0)
  ·exact Z
  refine Y ?_
  cases c_8 : (!mono)
  ·exact Z
  refine Y ?_
  rw [show (iu == ({ data := #[] } : ByteArray).data.toList) = (iu == []) from rfl]
  cases c_10 : (iu == [])
  ·exact Z
  refine Y ?_
  refine k'3d (StepE.freezeSl (ds := [.bool his.isEmpty, .bool ehs.isEmpty, .bool sus.isEmpty]) (.inl rfl) rfl rfl rfl rfl (by intro x hx; simp at hx; rcases hx with rfl | rfl | rfl <;> rfl)) rfl rfl rfl rfl ?_
  refine Y ?_
  refine k'1w [] (k'1k B his.isEmpty ehs.isEmpty sus.isEmpty) rfl rfl rfl rfl rfl ?_
  rw [Bool.not_not]
  exact k's rfl
 ·-- kind 1
  rw [show R = (true && ((temp == 0) && ((!mono) && (true && (his.isEmpty && (ehs.isEmpty && sus.isEmpty)))))) from by rw [← hR]; cases nbs.isEmpty <;> cases his.isEmpty <;> cases ehs.isEmpty <;> cases sus.isEmpty <;> cases (temp == 0) <;> cases mono <;> rfl]
  refine l_bw Tryz.func196 0 [] ?_
  rw [q2, q3, q4]
  refine k'4 (StepE.buildObj (es := [.bool his.isEmpty, .bool ehs.isEmpty, .bool sus.isEmpty]) rfl rfl rfl rfl rfl rfl (by intro x hx; simp at hx; rcases hx with rfl | rfl | rfl <;> rfl) rfl (by simp) (by decide)) rfl rfl ?_
  refine k'4 (StepE.moveSlo (.inr rfl) rfl) rfl rfl ?_
  refine Y ?_
  cases c_4 : (temp == 0)
  ·exact Z
  refine Y ?_
  cases c_6 : (!mono)
  ·exact Z
  refine Y ?_
  refine k'3d (StepE.freezeSl (ds := [.bool his.isEmpty, .bool ehs.isEmpty, .bool sus.isEmpty]) (.inl rfl) rfl rfl rfl rfl (by intro x hx; simp at hx; rcases hx with rfl | rfl | rfl <;> rfl)) rfl rfl rfl rfl ?_
  refine Y ?_
  refine k'1w [] (k'1k B his.isEmpty ehs.isEmpty sus.isEmpty) rfl rfl rfl rfl rfl ?_
  rw [Bool.not_not]
  exact k's rfl
 ·-- kind 2
  rw [show R = (true && (true && (true && (true && (his.isEmpty && (ehs.isEmpty && sus.isEmpty)))))) from by rw [← hR]; cases nbs.isEmpty <;> cases his.isEmpty <;> cases ehs.isEmpty <;> cases sus.isEmpty <;> cases (temp == 0) <;> cases mono <;> rfl]
  refine l_bw Tryz.func196 0 [] ?_
  rw [q2, q3, q4]
  refine k'4 (StepE.buildObj (es := [.bool his.isEmpty, .bool ehs.isEmpty, .bool sus.isEmpty]) rfl rfl rfl rfl rfl rfl (by intro x hx; simp at hx; rcases hx with rfl | rfl | rfl <;> rfl) rfl (by simp) (by decide)) rfl rfl ?_
  refine k'4 (StepE.moveSlo (.inr rfl) rfl) rfl rfl ?_
  refine Y ?_
  refine k'3d (StepE.freezeSl (ds := [.bool his.isEmpty, .bool ehs.isEmpty, .bool sus.isEmpty]) (.inl rfl) rfl rfl rfl rfl (by intro x hx; simp at hx; rcases hx with rfl | rfl | rfl <;> rfl)) rfl rfl rfl rfl ?_
  refine Y ?_
  refine k'1w [] (k'1k B his.isEmpty ehs.isEmpty sus.isEmpty) rfl rfl rfl rfl rfl ?_
  rw [Bool.not_not]
  exact k's rfl
 ·-- kind 3
  rw [show R = (nbs.isEmpty && (true && ((!mono) && (true && (true && (ehs.isEmpty && sus.isEmpty)))))) from by rw [← hR]; cases nbs.isEmpty <;> cases his.isEmpty <;> cases ehs.isEmpty <;> cases sus.isEmpty <;> cases (temp == 0) <;> cases mono <;> rfl]
  refine l_bw Tryz.func196 0 [] ?_
  rw [q2, q3, q4]
  refine k'4 (StepE.buildObj (es := [.bool his.isEmpty, .bool ehs.isEmpty, .bool sus.isEmpty]) rfl rfl rfl rfl rfl rfl (by intro x hx; simp at hx; rcases hx with rfl | rfl | rfl <;> rfl) rfl (by simp) (by decide)) rfl rfl ?_
  refine k'4 (StepE.moveSlo (.inr rfl) rfl) rfl rfl ?_
  refine Y ?_
  refine k'4 (StepE.moveSlo (.inl rfl) rfl) rfl rfl ?_
  refine Y ?_
  refine k'4 (StepE.sloAddr (k := .i64) (m := 0) rfl rfl rfl rfl rfl rfl rfl (by decide) (by decide)) rfl rfl ?_
  refine Y ?_
  rw [q1]
  cases c_4 : nbs.isEmpty
  ·exact Z
  refine Y ?_
  cases c_6 : (!mono)
  ·exact Z
  refine Y ?_
  refine k'3d (StepE.freezeSl (ds := [.bool true, .bool ehs.isEmpty, .bool sus.isEmpty]) (.inl rfl) rfl rfl rfl rfl (by intro x hx; simp at hx; rcases hx with rfl | rfl | rfl <;> rfl)) rfl rfl rfl rfl ?_
  refine Y ?_
  refine k'1w [] (k'1k B true ehs.isEmpty sus.isEmpty) rfl rfl rfl rfl rfl ?_
  rw [Bool.not_not]
  exact k's rfl
 ·-- kind 4
  rw [show R = (nbs.isEmpty && (true && ((!mono) && (true && (his.isEmpty && (true && sus.isEmpty)))))) from by rw [← hR]; cases nbs.isEmpty <;> cases his.isEmpty <;> cases ehs.isEmpty <;> cases sus.isEmpty <;> cases (temp == 0) <;> cases mono <;> rfl]
  refine l_bw Tryz.func196 0 [] ?_
  rw [q2, q3, q4]
  refine k'4 (StepE.buildObj (es := [.bool his.isEmpty, .bool ehs.isEmpty, .bool sus.isEmpty]) rfl rfl rfl rfl rfl rfl (by intro x hx; simp at hx; rcases hx with rfl | rfl | rfl <;> rfl) rfl (by simp) (by decide)) rfl rfl ?_
  refine k'4 (StepE.moveSlo (.inr rfl) rfl) rfl rfl ?_
  refine Y ?_
  refine k'4 (StepE.moveSlo (.inl rfl) rfl) rfl rfl ?_
  refine Y ?_
  refine k'4 (StepE.sloAddr (k := .i64) (m := 1) rfl rfl rfl rfl rfl rfl rfl (by decide) (by decide)) rfl rfl ?_
  refine Y ?_
  rw [q1]
  cases c_4 : nbs.isEmpty
  ·exact Z
  refine Y ?_
  cases c_6 : (!mono)
  ·exact Z
  refine Y ?_
  refine k'3d (StepE.freezeSl (ds := [.bool his.isEmpty, .bool true, .bool sus.isEmpty]) (.inl rfl) rfl rfl rfl rfl (by intro x hx; simp at hx; rcases hx with rfl | rfl | rfl <;> rfl)) rfl rfl rfl rfl ?_
  refine Y ?_
  refine k'1w [] (k'1k B his.isEmpty true sus.isEmpty) rfl rfl rfl rfl rfl ?_
  rw [Bool.not_not]
  exact k's rfl
 ·-- kind 5
  rw [show R = (nbs.isEmpty && ((temp == 0) && ((!mono) && (true && (his.isEmpty && (ehs.isEmpty && true)))))) from by rw [← hR]; cases nbs.isEmpty <;> cases his.isEmpty <;> cases ehs.isEmpty <;> cases sus.isEmpty <;> cases (temp == 0) <;> cases mono <;> rfl]
  refine l_bw Tryz.func196 0 [] ?_
  rw [q2, q3, q4]
  refine k'4 (StepE.buildObj (es := [.bool his.isEmpty, .bool ehs.isEmpty, .bool sus.isEmpty]) rfl rfl rfl rfl rfl rfl (by intro x hx; simp at hx; rcases hx with rfl | rfl | rfl <;> rfl) rfl (by simp) (by decide)) rfl rfl ?_
  refine k'4 (StepE.moveSlo (.inr rfl) rfl) rfl rfl ?_
  refine Y ?_
  refine k'4 (StepE.moveSlo (.inl rfl) rfl) rfl rfl ?_
  refine Y ?_
  refine k'4 (StepE.sloAddr (k := .i64) (m := 2) rfl rfl rfl rfl rfl rfl rfl (by decide) (by decide)) rfl rfl ?_
  refine Y ?_
  rw [q1]
  cases c_4 : nbs.isEmpty
  ·exact Z
  refine Y ?_
  cases c_6 : (temp == 0)
  ·exact Z
  refine Y ?_
  cases c_8 : (!mono)
  ·exact Z
  refine Y ?_
  refine k'3d (StepE.freezeSl (ds := [.bool his.isEmpty, .bool ehs.isEmpty, .bool true]) (.inl rfl) rfl rfl rfl rfl (by intro x hx; simp at hx; rcases hx with rfl | rfl | rfl <;> rfl)) rfl rfl rfl rfl ?_
  refine Y ?_
  refine k'1w [] (k'1k B his.isEmpty ehs.isEmpty true) rfl rfl rfl rfl rfl ?_
  rw [Bool.not_not]
  exact k's rfl
end
