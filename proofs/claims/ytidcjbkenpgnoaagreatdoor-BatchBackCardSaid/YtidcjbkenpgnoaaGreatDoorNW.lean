/- Exemplar: what they are, their bytes, what may be, what is read. -/
import Derived.Test.YtidcjbkenpgnoaaGreatDoorPAB
set_option linter.unusedSimpArgs false
set_option linter.unusedVariables false
set_option maxRecDepth 100000
namespace Go.Proofs.YtidcjbkenpgnoaaGreatDoor
open Go Go.Abs
variable (B : Fr)
section
structure Em where
 attrs : List Kv
 time : Nat
 kind : Int
 n : Nat
 span : List UInt8
 trace : List UInt8
 u : List UInt8
def noEm : Em := ⟨[], 0, 0, 0, [], [], []⟩
def Em.hb (x : Em) : List UInt8 := fxV 2 x.time ++ opV 3 (x.kind == 1) x.n ++ txV 4 x.span ++ txV 5 x.trace ++ opV 6 (x.kind == 2) x.n ++ psV 7 (Kv.mars x.attrs)
def Em.hF (x : Em) : List Fld := fxF 2 x.time ++ opF 3 (x.kind == 1) x.n ++ txF 4 x.span ++ txF 5 x.trace ++ opF 6 (x.kind == 2) x.n ++ psF 7 (Kv.mars x.attrs)
def Em.mar (x : Em) : List UInt8 := x.hb ++ x.u
def tbE (n k : Nat) : Bool := bif [2, 3, 6].contains n then k == 1 else bif [4, 5, 7].contains n then k == 2 else false
theorem tbE_calls (n k : Nat) : k'0 (cx B) 413 [iT n, iT k] [] (.d (.bool (tbE n k))) [] := by
 refine l_bw Tryz.func413 0 [] ?_
 cases h0 : ((n : Int) == 2) with
 | true =>
  have e : n = 2 := by have := eq_of_beq h0; omega
  subst e
  rw [show tbE 2 k = ((k : Int) == 1) from (ibeq k 1).symm]
  exact Z
 | false =>
 have eh0 : n ≠ 2 := by have := ne_of_beq_false h0; omega
 refine Y ?_
 cases h1 : ((n : Int) == 3) with
 | true =>
  have e : n = 3 := by have := eq_of_beq h1; omega
  subst e
  rw [show tbE 3 k = ((k : Int) == 1) from (ibeq k 1).symm]
  exact Z
 | false =>
 have eh1 : n ≠ 3 := by have := ne_of_beq_false h1; omega
 refine Y ?_
 cases h2 : ((n : Int) == 6) with
 | true =>
  have e : n = 6 := by have := eq_of_beq h2; omega
  subst e
  rw [show tbE 6 k = ((k : Int) == 1) from (ibeq k 1).symm]
  exact Z
 | false =>
 have eh2 : n ≠ 6 := by have := ne_of_beq_false h2; omega
 refine Y ?_
 cases h3 : ((n : Int) == 4) with
 | true =>
  have e : n = 4 := by have := eq_of_beq h3; omega
  subst e
  rw [show tbE 4 k = ((k : Int) == 2) from (ibeq k 2).symm]
  exact Z
 | false =>
 have eh3 : n ≠ 4 := by have := ne_of_beq_false h3; omega
 refine Y ?_
 cases h4 : ((n : Int) == 5) with
 | true =>
  have e : n = 5 := by have := eq_of_beq h4; omega
  subst e
  rw [show tbE 5 k = ((k : Int) == 2) from (ibeq k 2).symm]
  exact Z
 | false =>
 have eh4 : n ≠ 5 := by have := ne_of_beq_false h4; omega
 refine Y ?_
 cases h5 : ((n : Int) == 7) with
 | true =>
  have e : n = 7 := by have := eq_of_beq h5; omega
  subst e
  rw [show tbE 7 k = ((k : Int) == 2) from (ibeq k 2).symm]
  exact Z
 | false =>
 have eh5 : n ≠ 7 := by have := ne_of_beq_false h5; omega
 refine Y ?_
 rw [show tbE n k = false from by unfold tbE; simp [eh0, eh1, eh2, eh3, eh4, eh5]]
 exact k's rfl
def Em.wf (x : Em) : Prop := (∀ k ∈ x.attrs, k.wf) ∧ x.time < 2 ^ 64 ∧ x.n < 2 ^ 64
def Em.sz (x : Em) : Nat := 300 + Kv.szs x.attrs + x.span.length + x.trace.length + x.u.length
def Em.may (x : Em) (d : Int) : Bool := decide (0 ≤ d) && mayNum x.kind x.n && (x.attrs.all fun k => k.may (d - 1)) && k'1s tbE x.u d
theorem Em.hb_len (x : Em) : x.mar.length + 20 ≤ x.sz := by
 have q0 := k'10 2 x.time
 have q1 := k'25 3 (x.kind == 1) x.n
 have q2 := k'2b 4 x.span
 have q3 := k'2b 5 x.trace
 have q4 := k'25 6 (x.kind == 2) x.n
 have q5 := Kv.marsP_len 7 x.attrs
 unfold Em.mar Em.hb Em.sz
 simp only [List.length_append]
 omega
theorem Em.mar_len (x : Em) : x.mar.length + 20 ≤ x.sz := Em.hb_len x
theorem Em.mars_lt {l : List Em} (h : (l.map Em.sz).sum < big) : ∀ s ∈ l.map Em.mar, s.length < 2 ^ 64 := fun s hs => by
 obtain ⟨k, hk, rfl⟩ := List.mem_map.1 hs
 have h1 := Em.mar_len k; have h2 := k'1h (sz := Em.sz) hk
 unfold big at h; omega
theorem Em.all {x : Em} (h1 : x.sz < big) (h2 : x.wf) (d : Int) : all x.hb d = .ok x.hF := by
 unfold Em.sz big at h1
 obtain ⟨w0, w1, w2⟩ := h2
 exact k'2 (k'2 (k'2 (k'2 (k'2 (k'4p (by omega) (by omega) d (by omega)) (all_op (by omega) (by omega) d _ (by omega))) (all_tx (by omega) (by omega) d (by omega))) (all_tx (by omega) (by omega) d (by omega))) (all_op (by omega) (by omega) d _ (by omega))) (k'38 (by omega) (by omega) d (Kv.mars_lt (by unfold big; omega)))
theorem Em.inn (x : Em) : inT tbE x.hF = true := by
 unfold Em.hF
 simp only [k'3l, Bool.and_eq_true]
 exact ⟨⟨⟨⟨⟨in_fx 2 x.time rfl, in_op 3 x.n _ rfl⟩, in_tx 4 x.span rfl⟩, in_tx 5 x.trace rfl⟩, in_op 6 x.n _ rfl⟩, in_ps 7 _ rfl⟩
def tellEm (d : Int) (l : List Fld) : Option (List UInt8 → Em) :=
 match k'3 (fun s => okK s (d - 1)) 7 l with
 | none => none
 | some attrs =>
 some fun u => ⟨attrs, (k'6 l 2).n, ((k'58 3 6 (oneF [3, 6] l)).1 : Int), (k'58 3 6 (oneF [3, 6] l)).2, (k'6 l 4).s, (k'6 l 5).s, u⟩
def okEm (s : List UInt8) (d : Int) : Option Em := apO (okG tbE tellEm s d)
theorem Em.tell {x : Em} (hwf : x.wf) (hnum : mayNum x.kind x.n = true) (d : Int) : tellEm d x.hF = (
 match mapO (fun s => okK s (d - 1)) (Kv.mars x.attrs) with
 | none => none
 | some attrs =>
 some fun u => ⟨attrs, x.time, x.kind, x.n, x.span, x.trace, u⟩) := by
 obtain ⟨w0, w1, w2⟩ := hwf
 have sattrs : sel 7 x.hF = psF 7 (Kv.mars x.attrs) := by unfold Em.hF; simp [k'b, k'w, k'p, k'v, k'l, k'j]
 have tattrs : ∀ {α : Type} (ok : List UInt8 → Option α), k'3 ok 7 x.hF = mapO ok (Kv.mars x.attrs) := fun ok => k'19 ok sattrs
 have stime : sel 2 x.hF = fxF 2 x.time := by unfold Em.hF; simp [k'b, k'w, k'p, k'v, k'l, k'j]
 have ttime : (k'6 x.hF 2).n = x.time := k'2t stime
 have skn : selN [3, 6] x.hF = opF 3 (x.kind == 1) x.n ++ opF 6 (x.kind == 2) x.n := by unfold Em.hF; simp [selN_app, selN_fx, selN_vr, selN_op, selN_tx, selN_ps]
 have tkn : k'58 3 6 (oneF [3, 6] x.hF) = (x.kind.toNat, x.n) := by rw [← oneF_selN, skn]; exact tell_num (by omega) (by omega) (by omega) hnum
 have kkn : (x.kind.toNat : Int) = x.kind := by unfold mayNum at hnum; simp at hnum; omega
 have sspan : sel 4 x.hF = txF 4 x.span := by unfold Em.hF; simp [k'b, k'w, k'p, k'v, k'l, k'j]
 have tspan : (k'6 x.hF 4).s = x.span := last_tx sspan
 have strace : sel 5 x.hF = txF 5 x.trace := by unfold Em.hF; simp [k'b, k'w, k'p, k'v, k'l, k'j]
 have ttrace : (k'6 x.hF 5).s = x.trace := last_tx strace
 unfold tellEm
 simp only [tattrs, ttime, tkn, kkn, tspan, ttrace]
theorem Em_back : Back okEm Em.mar Em.may (fun x => x.sz < big ∧ x.wf) := by
 intro d x hf hm
 obtain ⟨hbig, hwf⟩ := hf
 have hall := Em.all hbig hwf
 have hwf0 := hwf
 have hbig' := hbig
 unfold Em.sz big at hbig'
 obtain ⟨w_attrs, -, -⟩ := hwf
 unfold Em.may at hm
 simp only [Bool.and_eq_true, decide_eq_true_eq] at hm
 obtain ⟨⟨⟨hd, m_kn⟩, m_attrs⟩, hu⟩ := hm
 have htell := fun d => Em.tell (x := x) hwf0 m_kn d
 obtain ⟨a_attrs, b_attrs⟩ := Kv_back.list (l := x.attrs) (d := d - 1) (fun k hk => ⟨by have := Kv.sz_mem hk; unfold big; omega, w_attrs k hk⟩) m_attrs
 simp only [← Kv.mars_map] at a_attrs b_attrs
 constructor
 ·unfold okEm Em.mar
  rw [k'z hd (hall d) x.inn hu, htell]
  simp only [a_attrs]
  rfl
 ·intro e he hn
  unfold okEm Em.mar
  cases hr : k'1s tbE x.u e with
  | false => rw [k'k (hall e) he hu fun _ => hr]; rfl
  | true =>
   rcases Int.lt_or_le e 0 with h0 | h0
   ·rw [k'1z h0]; rfl
   ·rw [k'z h0 (hall e) x.inn hr, htell]
    cases h_attrs : (x.attrs.all fun k => k.may (e - 1))
    ·have := b_attrs (e - 1) (by omega) h_attrs
     simp only [this]
     rfl
    exfalso
    unfold Em.may at hn
    simp [h0, hr, m_kn, h_attrs] at hn
theorem Em_told : Told okEm Em.may Em.wf Em.sz 300 := by
 intro d s x h
 obtain ⟨f, u, h1, rfl⟩ := k'2f h
 obtain ⟨l, -, h2, -, h4, hd, hf, hw⟩ := k'2z h1
 dsimp only at h2 h4 hw
 unfold tellEm at h2
 split at h2
 ·simp at h2
 rename_i attrs g_attrs
 injection h2 with h2
 subst h2
 obtain ⟨p_attrs, q_attrs, r_attrs⟩ := Kv_told.parts hf g_attrs
 obtain ⟨p_kn, q_kn⟩ := num_told (a := 3) (b := 6) hf
 have l_span := lastF_s hf 4
 have l_trace := lastF_s hf 5
 refine ⟨?_, ⟨q_attrs, k'17 hf 2, q_kn⟩, ?_⟩
 ·unfold Em.may
  simp only [Bool.and_eq_true]
  exact ⟨⟨⟨decide_eq_true hd, p_kn⟩, p_attrs⟩, h4⟩
 ·unfold Em.sz
  simp only [Kv.szs_sum]
  omega
def Em.eq (x y : Em) : Bool := Kv.eqs x.attrs y.attrs && x.time == y.time && x.kind == y.kind && x.n == y.n && x.span == y.span && x.trace == y.trace && x.u == y.u
def Em.eqs : List Em → List Em → Bool
 | [], [] => true
 | v :: l, w :: r => v.eq w && Em.eqs l r
 | [], _ :: _ => false
 | _ :: _, [] => false
theorem Em.eq_self (x : Em) : x.eq x = true := by unfold Em.eq; simp [Kv.eqs_self]
theorem Em.eqs_self : ∀ l : List Em, Em.eqs l l = true
 | [] => rfl
 | v :: l => by unfold Em.eqs; simp [Em.eq_self v, Em.eqs_self l]
theorem Em.eqs_by (a b : List Em) : Em.eqs a b = (a.length == b.length && (List.range a.length).all (byI Em.eq a b)) :=
 k'3n Em.eq Em.eqs rfl (fun _ _ _ _ => rfl) (fun _ _ => rfl) (fun _ _ => rfl) a b
end
section
def Em.d (x : Em) : D := .agg [slD (Kv.ds x.attrs), .int .u64 x.time, .int .i64 x.kind, .int .u64 x.n, .str x.span, .str x.trace, .str x.u]
def Em.R (x : Em) (a : D) : Prop := ∃ (z_attrs : Bool) (l_attrs : List D), a = .agg [.sl z_attrs l_attrs, .int .u64 x.time, .int .i64 x.kind, .int .u64 x.n, .str x.span, .str x.trace, .str x.u] ∧ Kv.Rs x.attrs l_attrs
def EmSh (x : D) : Prop := ∃ (a0 : Bool) (a1 : List D) (a2 : Nat) (a3 : Int) (a4 : Nat) (a5 : List UInt8) (a6 : List UInt8) (a7 : List UInt8), x = .agg [.sl a0 a1, .int .u64 a2, .int .i64 a3, .int .u64 a4, .str a5, .str a6, .str a7]
theorem Em.R_sh {x : Em} {a : D} (h : x.R a) : EmSh a := by
 obtain ⟨z_attrs, l_attrs, h, -⟩ := h
 exact ⟨_, _, _, _, _, _, _, _, h⟩
theorem Em.d_R (x : Em) : x.R x.d := ⟨_, _, rfl, Kv.ds_R _⟩
theorem Em.Rs_sh {l : List Em} {xs : List D} (h : RsOf Em.R l xs) : ∀ x ∈ xs, EmSh x := fun x hx => by
 obtain ⟨v, -, r⟩ := h.mem hx
 exact Em.R_sh r
theorem Em_Same_calls (x y : Em) (xa ya : D) (hbig : x.sz < big) (hx : x.R xa) (hy : y.R ya) : k'0 (cx B) 310 [.d xa, .d ya] [] (.d (.bool (x.eq y))) [] := by
 obtain ⟨z_attrs, l_attrs, rfl, r_attrs⟩ := hx
 obtain ⟨y_attrs, m_attrs, rfl, s_attrs⟩ := hy
 unfold Em.sz at hbig
 have c_attrs := k'1a B (a := x.attrs) (b := y.attrs) z_attrs y_attrs (by omega) r_attrs s_attrs
 rw [show x.eq y = ((x.time == y.time) && (x.kind == y.kind) && (x.n == y.n) && (x.span == y.span) && (x.trace == y.trace) && (x.u == y.u) && (Kv.eqs x.attrs y.attrs)) by unfold Em.eq; ac_rfl]
 refine l_bw Tryz.func310 0 [] ?_
 rw [ibeq x.time y.time]
 cases e0 : (x.time == y.time)
 ·exact Z
 refine Y ?_
 cases e1 : (x.kind == y.kind)
 ·exact Z
 refine Y ?_
 rw [ibeq x.n y.n]
 cases e2 : (x.n == y.n)
 ·exact Z
 refine Y ?_
 cases e3 : (x.span == y.span)
 ·exact Z
 refine Y ?_
 cases e4 : (x.trace == y.trace)
 ·exact Z
 refine Y ?_
 cases e5 : (x.u == y.u)
 ·exact Z
 refine Y ?_
 refine k'8 [] (c_attrs) rfl rfl rfl rfl rfl ?_
 exact Z
theorem EqF_Em_calls : EqFP B 309 EmSh := EqF_mk B Tryz.func309
theorem EqF_Em_R : EqRP B 309 310 Em.R Em.sz Em.eqs := EqF_R B (EqF_Em_calls B) Em.Rs_sh (fun x => by unfold Em.sz; omega) Em.eqs_by (Em_Same_calls B)
theorem Em_May_calls (x : Em) (xa : D) (d : Int) (hbig : x.sz < big) (hx : x.R xa) (hd1 : -9223372036854775808 ≤ d) (hd2 : d < 9223372036854775808) : k'0 (cx B) 337 [.d xa, .d (.int .i64 d)] [] (.d (.bool (x.may d))) [] := by
 obtain ⟨z_attrs, l_attrs, rfl, r_attrs⟩ := hx
 unfold Em.sz at hbig
 unfold Em.may
 by_cases hd0 : 0 ≤ d
 rotate_left
 ·rw [show decide (0 ≤ d) = false from decide_eq_false hd0]
  refine l_bw Tryz.func337 0 [] ?_
  rw [show decide (d ≥ 0) = false from decide_eq_false hd0]
  exact Z
 have c_u := k't B 413 tbE (tbE_calls B) x.u d (by omega) (by omega) hd2
 have c_kn := k'5a B x.kind x.n
 have c_attrs := k'1f B (a := x.attrs) z_attrs (d - 1) (by omega) (by omega) (by omega) r_attrs
 refine l_bw Tryz.func337 0 [] ?_
 rw [show decide (d ≥ 0) = decide (0 ≤ d) from rfl]
 cases e0 : (decide (0 ≤ d))
 ·exact Z
 refine Y ?_
 refine k'1w [] (c_kn) rfl rfl rfl rfl rfl ?_
 cases e1 : (mayNum x.kind x.n)
 ·exact Z
 refine Y ?_
 rw [k'11 1 (by omega) (by omega) (by omega) hd2]
 refine k'1w [] (c_attrs) rfl rfl rfl rfl rfl ?_
 cases e2 : (x.attrs.all fun k => k.may (d - 1))
 ·exact Z
 refine Y ?_
 refine k'8 [] (c_u) rfl rfl rfl rfl rfl ?_
 exact Z
theorem All_Em_calls : AllP B 336 EmSh := All_of B (All1_mk B Tryz.func412) (k'2m B Tryz.func443) (Cont_mk B Tryz.func411) (Allc_mk B Tryz.func336)
theorem All_Em_R : AllRP B 336 337 Em.R Em.sz Em.may := All_R B (All_Em_calls B) Em.Rs_sh (fun x => by unfold Em.sz; omega) (Em_May_calls B)
theorem Em_Marshal_calls (x : Em) (xa : D) (d : Int) (hbig : x.sz < big) (hwf : x.wf) (hx : x.R xa) (hd1 : -9223372036854775808 ≤ d) (hd2 : d < 9223372036854775808) : k'0 (cx B) 394 [.d xa, .d (.int .i64 d)] [] (if x.may d then .tup [sT x.mar, .d .nili] else .tup [sT [], .d (Er.code 8).d]) [] := by
 have hm := Em_May_calls B x xa d hbig hx hd1 hd2
 have hlen := Em.mar_len x
 have hlen : x.mar.length < big := by omega
 obtain ⟨z_attrs, l_attrs, rfl, r_attrs⟩ := hx
 unfold Em.sz at hbig
 cases hc : x.may d
 ·rw [hc] at hm
  refine l_bw Tryz.func394 0 [] ?_
  refine k'1 [] (hm) rfl rfl rfl ?_
  exact Z
 rw [hc] at hm
 have hc' := hc
 unfold Em.may at hc'
 simp only [Bool.and_eq_true, decide_eq_true_eq] at hc'
 obtain ⟨⟨⟨hd, m_kn⟩, m_attrs⟩, hu⟩ := hc'
 obtain ⟨w_attrs, w_time, w_n⟩ := hwf
 unfold Em.mar Em.hb at hlen ⊢
 obtain ⟨a0, ha0, c0⟩ := k'1o B 2 x.time (by omega) (by omega) (.nw 71 2) [] k'22 (by simp only [List.length_append, List.length_nil] at hlen ⊢; omega)
 rw [List.nil_append] at c0
 obtain ⟨a1, ha1, c1⟩ := wr_either B (x.kind == 1) 3 x.n (by omega) (by omega) (a0) (fxV 2 x.time) ha0 (by simp only [List.length_append, List.length_nil] at hlen ⊢; omega)
 obtain ⟨a2, ha2, c2⟩ := k'2g B 4 x.span (by omega) (by omega) (a1) (fxV 2 x.time ++ opV 3 (x.kind == 1) x.n) ha1 (by simp only [List.length_append, List.length_nil] at hlen ⊢; omega)
 obtain ⟨a3, ha3, c3⟩ := k'2g B 5 x.trace (by omega) (by omega) (a2) (fxV 2 x.time ++ opV 3 (x.kind == 1) x.n ++ txV 4 x.span) ha2 (by simp only [List.length_append, List.length_nil] at hlen ⊢; omega)
 obtain ⟨a4, ha4, c4⟩ := wr_either B (x.kind == 2) 6 x.n (by omega) (by omega) (a3) (fxV 2 x.time ++ opV 3 (x.kind == 1) x.n ++ txV 4 x.span ++ txV 5 x.trace) ha3 (by simp only [List.length_append, List.length_nil] at hlen ⊢; omega)
 obtain ⟨a5, ha5, c5⟩ := k'34 B 7 (by omega) (by omega) z_attrs d (by omega) w_attrs m_attrs hd hd2 r_attrs (a4) (fxV 2 x.time ++ opV 3 (x.kind == 1) x.n ++ txV 4 x.span ++ txV 5 x.trace ++ opV 6 (x.kind == 2) x.n) ha4 (by simp only [List.length_append, List.length_nil] at hlen ⊢; omega)
 obtain ⟨cu, cs⟩ := k'26 B (s := x.u) ha5 (l := fxV 2 x.time ++ opV 3 (x.kind == 1) x.n ++ txV 4 x.span ++ txV 5 x.trace ++ opV 6 (x.kind == 2) x.n ++ psV 7 (Kv.mars x.attrs)) (by simp only [List.length_append] at hlen ⊢; omega)
 generalize fxV 2 x.time ++ opV 3 (x.kind == 1) x.n ++ txV 4 x.span ++ txV 5 x.trace ++ opV 6 (x.kind == 2) x.n ++ psV 7 (Kv.mars x.attrs) = o5 at c5 cu cs ⊢
 generalize fxV 2 x.time ++ opV 3 (x.kind == 1) x.n ++ txV 4 x.span ++ txV 5 x.trace ++ opV 6 (x.kind == 2) x.n = o4 at c4 c5
 generalize fxV 2 x.time ++ opV 3 (x.kind == 1) x.n ++ txV 4 x.span ++ txV 5 x.trace = o3 at c3 c4
 generalize fxV 2 x.time ++ opV 3 (x.kind == 1) x.n ++ txV 4 x.span = o2 at c2 c3
 generalize fxV 2 x.time ++ opV 3 (x.kind == 1) x.n = o1 at c1 c2
 generalize fxV 2 x.time = o0 at c0 c1
 refine l_bw Tryz.func394 0 [] ?_
 refine l_cw [] (hm) rfl rfl rfl ?_
 refine l_wr [1] (c0) k'22 ha0 ?_
 refine l_wr [1] (c1) ha0 ha1 ?_
 refine l_wr [1] (c2) ha1 ha2 ?_
 refine l_wr [1] (c3) ha2 ha3 ?_
 refine l_wr [1] (c4) ha3 ha4 ?_
 refine l_wr [1] (c5) ha4 ha5 ?_
 refine l_wr [1] (cu) ha5 (.inl rfl) ?_
 refine k'1g [1] (cs) rfl rfl rfl rfl rfl rfl rfl (by decide) (by simp [k'5 (.inl rfl)]) rfl rfl rfl rfl ?_
 exact Z
theorem Parts_Em_wr : PartsP B 393 EmSh := k'3j B Tryz.func393
theorem Parts_Em_R : k'3o B 393 394 Em.R Em.sz Em.wf Em.may Em.mar := Parts_R B (Parts_Em_wr B) Em.Rs_sh (Em_Marshal_calls B)
theorem Em_fits (l : List Em) : ∀ a ∈ l.map Em.d, a.fits 7 = true := by
 intro a ha
 obtain ⟨c, -, rfl⟩ := List.mem_map.1 ha
 rfl
theorem part_Em_calls : partP B 427 Em.d := k'2s B Tryz.func427
theorem List_Em_calls : ListP B 363 Em.d := List_S B (fun x => Em_fits [x]) (part_Em_calls B) (k'4u B Tryz.func363)
theorem k'4v : ListT B 363 Em.d := k'1r B (List_Em_calls B)
theorem okEm_rd (s : List UInt8) (d : Int) : okEm s d = (match k'd s d, k'3 (fun s => okK s (d - 1)) 7 (knB tbE s d) with
 | none, some attrs => some ⟨attrs, (k'6 (knB tbE s d) 2).n, ((k'58 3 6 (oneF [3, 6] (knB tbE s d))).1 : Int), (k'58 3 6 (oneF [3, 6] (knB tbE s d))).2, (k'6 (knB tbE s d) 4).s, (k'6 (knB tbE s d) 5).s, unB tbE s d⟩
 | _, _ => none) := by
 unfold okEm
 rw [k'4a]
 cases k'd s d with
 | some e => rfl
 | none =>
  unfold tellEm
  simp only
  cases k'3 (fun s => okK s (d - 1)) 7 (knB tbE s d) with
  | none => rfl
  | some attrs =>
   rfl
theorem Em_read (hB : BOk B) (s : List UInt8) (d : Int) (hl : s.length < big) (hd1 : -9223372036854775808 ≤ d) (hd2 : d < 9223372036854775808) :
  RdZ B 364 Em.d noEm (okEm s d) s d ∧ (∀ e0, k'd s d = some e0 → k'0 (cx B) 364 [sT s, .d (.int .i64 d)] [] (.tup [.d noEm.d, .d e0.d]) []) := by
 have h1 := k'o B hB 413 tbE (tbE_calls B) s d hl hd1 hd2
 have hk : LOk (knB tbE s d) := k'e tbE s d hl
 have hm := k'1p hk
 obtain ⟨vs_attrs, e1, c_attrs, t1⟩ := k'15 B hB (fun s => okK s (d - 1)) Kv.sh noKV 168 [] (k'd s d) (unB tbE s d) d s.length (knB tbE s d) 7 hk (fun h => by have := k'1u h; omega) hd2 (fun x hx hn => k'16 B hB x.s (d - 1) (lok_s hk hx) (by have := k'2e hx; omega) (by omega))
 have hein : ∀ x, e1 = some x → EIn s.length x := t1.ein (fun x hx => k'n hx)
 have main : k'0 (cx B) 364 [sT s, .d (.int .i64 d)] [] (.tup [.d (orD e1 (.agg [slD (vs_attrs.map KVs.d), .int .u64 (k'6 (knB tbE s d) 2).n, .int .i64 ((k'58 3 6 (oneF [3, 6] (knB tbE s d))).1 : Nat), .int .u64 ((k'58 3 6 (oneF [3, 6] (knB tbE s d))).2 : Nat), .str (k'6 (knB tbE s d) 4).s, .str (k'6 (knB tbE s d) 5).s, .str (unB tbE s d)]) noEm.d), .d (eD e1)]) [] := by
  clear hein t1
  refine l_bw Tryz.func364 0 [] ?_
  refine l_cw [] (h1) rfl rfl rfl ?_
  refine k'3q (i0 := 13) (z := 14) (t0 := 7) rfl (by decide) rfl rfl rfl rfl rfl rfl rfl rfl rfl rfl ?_
  refine Y ?_
  refine x_cw [1] (k'9 B (k'd s d) (unB tbE s d) d s.length (knB tbE s d) 2 hm) rfl rfl rfl ?_
  refine x_cw [1] (rBytes0_calls B (k'd s d) (unB tbE s d) d s.length (knB tbE s d) 4 hm) rfl rfl rfl ?_
  refine x_cw [1] (rBytes0_calls B (k'd s d) (unB tbE s d) d s.length (knB tbE s d) 5 hm) rfl rfl rfl ?_
  refine x_cw [1] (c_attrs) rfl rfl rfl ?_
  refine l_cw [1] (rNumber_calls B e1 (unB tbE s d) d s.length (knB tbE s d) 3 6 hk) rfl rfl rfl ?_
  cases e1 with
  | none =>
   exact Z
  | some er =>
   cases er <;> (
   exact Z)
 constructor
 ·rw [okEm_rd]
  cases e1 with
  | none =>
   obtain ⟨k0, a_attrs, g_attrs, v_attrs⟩ := t1.ok
   rw [k0, g_attrs]
   subst v_attrs
   rw [ks_map a_attrs] at main
   exact main
  | some er =>
   have hno : (match k'd s d, k'3 (fun s => okK s (d - 1)) 7 (knB tbE s d) with
    | none, some attrs => some (⟨attrs, (k'6 (knB tbE s d) 2).n, ((k'58 3 6 (oneF [3, 6] (knB tbE s d))).1 : Int), (k'58 3 6 (oneF [3, 6] (knB tbE s d))).2, (k'6 (knB tbE s d) 4).s, (k'6 (knB tbE s d) 5).s, unB tbE s d⟩ : Em)
    | _, _ => none) = none := by
    cases hr : k'd s d with
    | some x => rfl
    | none =>
     rw [hr] at t1
     cases hp0 : k'3 (fun s => okK s (d - 1)) 7 (knB tbE s d) with
     | none => rfl
     | some a0 =>
      rw [hp0] at t1
      have := t1.get.2; simp at this
   rw [hno]
   exact ⟨er, hein er rfl, main⟩
 ·intro e0 he
  rw [he] at t1
  have k1 := t1.keep
  subst k1
  exact main
end
section
structure Nb where
 attrs : List Kv
 start : Nat
 time : Nat
 kind : Int
 n : Nat
 exs : List Em
 flags : Nat
 u : List UInt8
def noNb : Nb := ⟨[], 0, 0, 0, 0, [], 0, []⟩
def Nb.hb (x : Nb) : List UInt8 := fxV 2 x.start ++ fxV 3 x.time ++ opV 4 (x.kind == 1) x.n ++ psV 5 (x.exs.map Em.mar) ++ opV 6 (x.kind == 2) x.n ++ psV 7 (Kv.mars x.attrs) ++ vrV 8 x.flags
def Nb.hF (x : Nb) : List Fld := fxF 2 x.start ++ fxF 3 x.time ++ opF 4 (x.kind == 1) x.n ++ psF 5 (x.exs.map Em.mar) ++ opF 6 (x.kind == 2) x.n ++ psF 7 (Kv.mars x.attrs) ++ vrF 8 x.flags
def Nb.mar (x : Nb) : List UInt8 := x.hb ++ x.u
def tbN (n k : Nat) : Bool := bif [2, 3, 4, 6].contains n then k == 1 else bif [5, 7].contains n then k == 2 else bif [8].contains n then k == 0 else false
theorem tbN_calls (n k : Nat) : k'0 (cx B) 338 [iT n, iT k] [] (.d (.bool (tbN n k))) [] := by
 refine l_bw Tryz.func338 0 [] ?_
 cases h0 : ((n : Int) == 2) with
 | true =>
  have e : n = 2 := by have := eq_of_beq h0; omega
  subst e
  rw [show tbN 2 k = ((k : Int) == 1) from (ibeq k 1).symm]
  exact Z
 | false =>
 have eh0 : n ≠ 2 := by have := ne_of_beq_false h0; omega
 refine Y ?_
 cases h1 : ((n : Int) == 3) with
 | true =>
  have e : n = 3 := by have := eq_of_beq h1; omega
  subst e
  rw [show tbN 3 k = ((k : Int) == 1) from (ibeq k 1).symm]
  exact Z
 | false =>
 have eh1 : n ≠ 3 := by have := ne_of_beq_false h1; omega
 refine Y ?_
 cases h2 : ((n : Int) == 4) with
 | true =>
  have e : n = 4 := by have := eq_of_beq h2; omega
  subst e
  rw [show tbN 4 k = ((k : Int) == 1) from (ibeq k 1).symm]
  exact Z
 | false =>
 have eh2 : n ≠ 4 := by have := ne_of_beq_false h2; omega
 refine Y ?_
 cases h3 : ((n : Int) == 6) with
 | true =>
  have e : n = 6 := by have := eq_of_beq h3; omega
  subst e
  rw [show tbN 6 k = ((k : Int) == 1) from (ibeq k 1).symm]
  exact Z
 | false =>
 have eh3 : n ≠ 6 := by have := ne_of_beq_false h3; omega
 refine Y ?_
 cases h4 : ((n : Int) == 5) with
 | true =>
  have e : n = 5 := by have := eq_of_beq h4; omega
  subst e
  rw [show tbN 5 k = ((k : Int) == 2) from (ibeq k 2).symm]
  exact Z
 | false =>
 have eh4 : n ≠ 5 := by have := ne_of_beq_false h4; omega
 refine Y ?_
 cases h5 : ((n : Int) == 7) with
 | true =>
  have e : n = 7 := by have := eq_of_beq h5; omega
  subst e
  rw [show tbN 7 k = ((k : Int) == 2) from (ibeq k 2).symm]
  exact Z
 | false =>
 have eh5 : n ≠ 7 := by have := ne_of_beq_false h5; omega
 refine Y ?_
 cases h6 : ((n : Int) == 8) with
 | true =>
  have e : n = 8 := by have := eq_of_beq h6; omega
  subst e
  rw [show tbN 8 k = ((k : Int) == 0) from (ibeq k 0).symm]
  exact Z
 | false =>
 have eh6 : n ≠ 8 := by have := ne_of_beq_false h6; omega
 refine Y ?_
 rw [show tbN n k = false from by unfold tbN; simp [eh0, eh1, eh2, eh3, eh4, eh5, eh6]]
 exact k's rfl
def Nb.wf (x : Nb) : Prop := (∀ k ∈ x.attrs, k.wf) ∧ x.start < 2 ^ 64 ∧ x.time < 2 ^ 64 ∧ x.n < 2 ^ 64 ∧ (∀ k ∈ x.exs, k.wf) ∧ x.flags < 4294967296
def Nb.sz (x : Nb) : Nat := 300 + Kv.szs x.attrs + (x.exs.map Em.sz).sum + x.u.length
def Nb.may (x : Nb) (d : Int) : Bool := decide (0 ≤ d) && mayNum x.kind x.n && (x.exs.all fun k => k.may (d - 1)) && (x.attrs.all fun k => k.may (d - 1)) && k'1s tbN x.u d
theorem Nb.hb_len (x : Nb) : x.mar.length + 20 ≤ x.sz := by
 have q0 := k'10 2 x.start
 have q1 := k'10 3 x.time
 have q2 := k'25 4 (x.kind == 1) x.n
 have q3 := k'40 5 x.exs fun y _ => Em.mar_len y
 have q4 := k'25 6 (x.kind == 2) x.n
 have q5 := Kv.marsP_len 7 x.attrs
 have q6 := k'2a 8 x.flags
 unfold Nb.mar Nb.hb Nb.sz
 simp only [List.length_append]
 omega
theorem Nb.mar_len (x : Nb) : x.mar.length + 20 ≤ x.sz := Nb.hb_len x
theorem Nb.mars_lt {l : List Nb} (h : (l.map Nb.sz).sum < big) : ∀ s ∈ l.map Nb.mar, s.length < 2 ^ 64 := fun s hs => by
 obtain ⟨k, hk, rfl⟩ := List.mem_map.1 hs
 have h1 := Nb.mar_len k; have h2 := k'1h (sz := Nb.sz) hk
 unfold big at h; omega
theorem Nb.all {x : Nb} (h1 : x.sz < big) (h2 : x.wf) (d : Int) : all x.hb d = .ok x.hF := by
 unfold Nb.sz big at h1
 obtain ⟨w0, w1, w2, w3, w4, w5⟩ := h2
 exact k'2 (k'2 (k'2 (k'2 (k'2 (k'2 (k'4p (by omega) (by omega) d (by omega)) (k'4p (by omega) (by omega) d (by omega))) (all_op (by omega) (by omega) d _ (by omega))) (k'38 (by omega) (by omega) d (Em.mars_lt (by unfold big; omega)))) (all_op (by omega) (by omega) d _ (by omega))) (k'38 (by omega) (by omega) d (Kv.mars_lt (by unfold big; omega)))) (all_vr (by omega) (by omega) d (by omega))
theorem Nb.inn (x : Nb) : inT tbN x.hF = true := by
 unfold Nb.hF
 simp only [k'3l, Bool.and_eq_true]
 exact ⟨⟨⟨⟨⟨⟨in_fx 2 x.start rfl, in_fx 3 x.time rfl⟩, in_op 4 x.n _ rfl⟩, in_ps 5 _ rfl⟩, in_op 6 x.n _ rfl⟩, in_ps 7 _ rfl⟩, in_vr 8 x.flags rfl⟩
def tellNb (d : Int) (l : List Fld) : Option (List UInt8 → Nb) :=
 match k'3 (fun s => okK s (d - 1)) 7 l with
 | none => none
 | some attrs =>
 match k'3 (fun s => okEm s (d - 1)) 5 l with
 | none => none
 | some exs =>
 some fun u => ⟨attrs, (k'6 l 2).n, (k'6 l 3).n, ((k'58 4 6 (oneF [4, 6] l)).1 : Int), (k'58 4 6 (oneF [4, 6] l)).2, exs, (k'6 l 8).n % 4294967296, u⟩
def okNb (s : List UInt8) (d : Int) : Option Nb := apO (okG tbN tellNb s d)
theorem Nb.tell {x : Nb} (hwf : x.wf) (hnum : mayNum x.kind x.n = true) (d : Int) : tellNb d x.hF = (
 match mapO (fun s => okK s (d - 1)) (Kv.mars x.attrs) with
 | none => none
 | some attrs =>
 match mapO (fun s => okEm s (d - 1)) ((x.exs.map Em.mar)) with
 | none => none
 | some exs =>
 some fun u => ⟨attrs, x.start, x.time, x.kind, x.n, exs, x.flags, u⟩) := by
 obtain ⟨w0, w1, w2, w3, w4, w5⟩ := hwf
 have sattrs : sel 7 x.hF = psF 7 (Kv.mars x.attrs) := by unfold Nb.hF; simp [k'b, k'w, k'p, k'v, k'l, k'j]
 have tattrs : ∀ {α : Type} (ok : List UInt8 → Option α), k'3 ok 7 x.hF = mapO ok (Kv.mars x.attrs) := fun ok => k'19 ok sattrs
 have sstart : sel 2 x.hF = fxF 2 x.start := by unfold Nb.hF; simp [k'b, k'w, k'p, k'v, k'l, k'j]
 have tstart : (k'6 x.hF 2).n = x.start := k'2t sstart
 have stime : sel 3 x.hF = fxF 3 x.time := by unfold Nb.hF; simp [k'b, k'w, k'p, k'v, k'l, k'j]
 have ttime : (k'6 x.hF 3).n = x.time := k'2t stime
 have skn : selN [4, 6] x.hF = opF 4 (x.kind == 1) x.n ++ opF 6 (x.kind == 2) x.n := by unfold Nb.hF; simp [selN_app, selN_fx, selN_vr, selN_op, selN_tx, selN_ps]
 have tkn : k'58 4 6 (oneF [4, 6] x.hF) = (x.kind.toNat, x.n) := by rw [← oneF_selN, skn]; exact tell_num (by omega) (by omega) (by omega) hnum
 have kkn : (x.kind.toNat : Int) = x.kind := by unfold mayNum at hnum; simp at hnum; omega
 have sexs : sel 5 x.hF = psF 5 (x.exs.map Em.mar) := by unfold Nb.hF; simp [k'b, k'w, k'p, k'v, k'l, k'j]
 have texs : ∀ {α : Type} (ok : List UInt8 → Option α), k'3 ok 5 x.hF = mapO ok ((x.exs.map Em.mar)) := fun ok => k'19 ok sexs
 have sflags : sel 8 x.hF = vrF 8 x.flags := by unfold Nb.hF; simp [k'b, k'w, k'p, k'v, k'l, k'j]
 have tflags : (k'6 x.hF 8).n % 4294967296 = x.flags := by rw [last_vr sflags]; omega
 unfold tellNb
 simp only [tattrs, tstart, ttime, tkn, kkn, texs, tflags]
theorem Nb_back : Back okNb Nb.mar Nb.may (fun x => x.sz < big ∧ x.wf) := by
 intro d x hf hm
 obtain ⟨hbig, hwf⟩ := hf
 have hall := Nb.all hbig hwf
 have hwf0 := hwf
 have hbig' := hbig
 unfold Nb.sz big at hbig'
 obtain ⟨w_attrs, -, -, -, w_exs, -⟩ := hwf
 unfold Nb.may at hm
 simp only [Bool.and_eq_true, decide_eq_true_eq] at hm
 obtain ⟨⟨⟨⟨hd, m_kn⟩, m_exs⟩, m_attrs⟩, hu⟩ := hm
 have htell := fun d => Nb.tell (x := x) hwf0 m_kn d
 obtain ⟨a_attrs, b_attrs⟩ := Kv_back.list (l := x.attrs) (d := d - 1) (fun k hk => ⟨by have := Kv.sz_mem hk; unfold big; omega, w_attrs k hk⟩) m_attrs
 simp only [← Kv.mars_map] at a_attrs b_attrs
 obtain ⟨a_exs, b_exs⟩ := Em_back.list (l := x.exs) (d := d - 1) (fun k hk => ⟨by have := k'1h (sz := Em.sz) hk; unfold big; omega, w_exs k hk⟩) m_exs
 constructor
 ·unfold okNb Nb.mar
  rw [k'z hd (hall d) x.inn hu, htell]
  simp only [a_attrs, a_exs]
  rfl
 ·intro e he hn
  unfold okNb Nb.mar
  cases hr : k'1s tbN x.u e with
  | false => rw [k'k (hall e) he hu fun _ => hr]; rfl
  | true =>
   rcases Int.lt_or_le e 0 with h0 | h0
   ·rw [k'1z h0]; rfl
   ·rw [k'z h0 (hall e) x.inn hr, htell]
    cases h_attrs : (x.attrs.all fun k => k.may (e - 1))
    ·have := b_attrs (e - 1) (by omega) h_attrs
     simp only [this]
     rfl
    cases h_exs : (x.exs.all fun k => k.may (e - 1))
    ·have := b_exs (e - 1) (by omega) h_exs
     simp only [this]
     all_goals (repeat' split) <;> rfl
    exfalso
    unfold Nb.may at hn
    simp [h0, hr, m_kn, h_attrs, h_exs] at hn
theorem Nb_told : Told okNb Nb.may Nb.wf Nb.sz 800 := by
 intro d s x h
 obtain ⟨f, u, h1, rfl⟩ := k'2f h
 obtain ⟨l, -, h2, -, h4, hd, hf, hw⟩ := k'2z h1
 dsimp only at h2 h4 hw
 unfold tellNb at h2
 split at h2
 ·simp at h2
 rename_i attrs g_attrs
 split at h2
 ·simp at h2
 rename_i exs g_exs
 injection h2 with h2
 subst h2
 obtain ⟨p_attrs, q_attrs, r_attrs⟩ := Kv_told.parts hf g_attrs
 obtain ⟨p_exs, q_exs, r_exs⟩ := Em_told.parts hf g_exs
 obtain ⟨p_kn, q_kn⟩ := num_told (a := 4) (b := 6) hf
 refine ⟨?_, ⟨q_attrs, k'17 hf 2, k'17 hf 3, q_kn, q_exs, Nat.mod_lt _ (by decide)⟩, ?_⟩
 ·unfold Nb.may
  simp only [Bool.and_eq_true]
  exact ⟨⟨⟨⟨decide_eq_true hd, p_kn⟩, p_exs⟩, p_attrs⟩, h4⟩
 ·unfold Nb.sz
  simp only [Kv.szs_sum]
  omega
def Nb.eq (x y : Nb) : Bool := Kv.eqs x.attrs y.attrs && x.start == y.start && x.time == y.time && x.kind == y.kind && x.n == y.n && Em.eqs x.exs y.exs && x.flags == y.flags && x.u == y.u
def Nb.eqs : List Nb → List Nb → Bool
 | [], [] => true
 | v :: l, w :: r => v.eq w && Nb.eqs l r
 | [], _ :: _ => false
 | _ :: _, [] => false
theorem Nb.eq_self (x : Nb) : x.eq x = true := by unfold Nb.eq; simp [Kv.eqs_self, Em.eqs_self]
theorem Nb.eqs_self : ∀ l : List Nb, Nb.eqs l l = true
 | [] => rfl
 | v :: l => by unfold Nb.eqs; simp [Nb.eq_self v, Nb.eqs_self l]
theorem Nb.eqs_by (a b : List Nb) : Nb.eqs a b = (a.length == b.length && (List.range a.length).all (byI Nb.eq a b)) :=
 k'3n Nb.eq Nb.eqs rfl (fun _ _ _ _ => rfl) (fun _ _ => rfl) (fun _ _ => rfl) a b
end
section
def Nb.d (x : Nb) : D := .agg [slD (Kv.ds x.attrs), .int .u64 x.start, .int .u64 x.time, .int .i64 x.kind, .int .u64 x.n, slD (x.exs.map Em.d), .int .u32 x.flags, .str x.u]
def Nb.R (x : Nb) (a : D) : Prop := ∃ (z_attrs : Bool) (l_attrs : List D) (z_exs : Bool) (l_exs : List D), a = .agg [.sl z_attrs l_attrs, .int .u64 x.start, .int .u64 x.time, .int .i64 x.kind, .int .u64 x.n, .sl z_exs l_exs, .int .u32 x.flags, .str x.u] ∧ Kv.Rs x.attrs l_attrs ∧ RsOf Em.R x.exs l_exs
def NbSh (x : D) : Prop := ∃ (a0 : Bool) (a1 : List D) (a2 : Nat) (a3 : Nat) (a4 : Int) (a5 : Nat) (a6 : Bool) (a7 : List D) (a8 : Nat) (a9 : List UInt8), x = .agg [.sl a0 a1, .int .u64 a2, .int .u64 a3, .int .i64 a4, .int .u64 a5, .sl a6 a7, .int .u32 a8, .str a9]
theorem Nb.R_sh {x : Nb} {a : D} (h : x.R a) : NbSh a := by
 obtain ⟨z_attrs, l_attrs, z_exs, l_exs, h, -⟩ := h
 exact ⟨_, _, _, _, _, _, _, _, _, _, h⟩
theorem Nb.d_R (x : Nb) : x.R x.d := ⟨_, _, _, _, rfl, Kv.ds_R _, RsOf.map Em.d_R _⟩
theorem Nb.Rs_sh {l : List Nb} {xs : List D} (h : RsOf Nb.R l xs) : ∀ x ∈ xs, NbSh x := fun x hx => by
 obtain ⟨v, -, r⟩ := h.mem hx
 exact Nb.R_sh r
theorem Nb_Same_calls (x y : Nb) (xa ya : D) (hbig : x.sz < big) (hx : x.R xa) (hy : y.R ya) : k'0 (cx B) 237 [.d xa, .d ya] [] (.d (.bool (x.eq y))) [] := by
 obtain ⟨z_attrs, l_attrs, z_exs, l_exs, rfl, r_attrs, r_exs⟩ := hx
 obtain ⟨y_attrs, m_attrs, y_exs, m_exs, rfl, s_attrs, s_exs⟩ := hy
 unfold Nb.sz at hbig
 have c_attrs := k'1a B (a := x.attrs) (b := y.attrs) z_attrs y_attrs (by omega) r_attrs s_attrs
 have c_exs := EqF_Em_R B z_exs y_exs (by omega) r_exs s_exs
 rw [show x.eq y = ((x.start == y.start) && (x.time == y.time) && (x.kind == y.kind) && (x.n == y.n) && (x.flags == y.flags) && (x.u == y.u) && (Em.eqs x.exs y.exs) && (Kv.eqs x.attrs y.attrs)) by unfold Nb.eq; ac_rfl]
 refine l_bw Tryz.func237 0 [] ?_
 rw [ibeq x.start y.start]
 cases e0 : (x.start == y.start)
 ·exact Z
 refine Y ?_
 rw [ibeq x.time y.time]
 cases e1 : (x.time == y.time)
 ·exact Z
 refine Y ?_
 cases e2 : (x.kind == y.kind)
 ·exact Z
 refine Y ?_
 rw [ibeq x.n y.n]
 cases e3 : (x.n == y.n)
 ·exact Z
 refine Y ?_
 rw [ibeq x.flags y.flags]
 cases e4 : (x.flags == y.flags)
 ·exact Z
 refine Y ?_
 cases e5 : (x.u == y.u)
 ·exact Z
 refine Y ?_
 refine k'1w [] (c_exs) rfl rfl rfl rfl rfl ?_
 cases e6 : (Em.eqs x.exs y.exs)
 ·exact Z
 refine Y ?_
 refine k'8 [] (c_attrs) rfl rfl rfl rfl rfl ?_
 exact Z
theorem EqF_Nb_calls : EqFP B 236 NbSh := EqF_mk B Tryz.func236
theorem EqF_Nb_R : EqRP B 236 237 Nb.R Nb.sz Nb.eqs := EqF_R B (EqF_Nb_calls B) Nb.Rs_sh (fun x => by unfold Nb.sz; omega) Nb.eqs_by (Nb_Same_calls B)
theorem Nb_May_calls (x : Nb) (xa : D) (d : Int) (hbig : x.sz < big) (hx : x.R xa) (hd1 : -9223372036854775808 ≤ d) (hd2 : d < 9223372036854775808) : k'0 (cx B) 253 [.d xa, .d (.int .i64 d)] [] (.d (.bool (x.may d))) [] := by
 obtain ⟨z_attrs, l_attrs, z_exs, l_exs, rfl, r_attrs, r_exs⟩ := hx
 unfold Nb.sz at hbig
 unfold Nb.may
 by_cases hd0 : 0 ≤ d
 rotate_left
 ·rw [show decide (0 ≤ d) = false from decide_eq_false hd0]
  refine l_bw Tryz.func253 0 [] ?_
  rw [show decide (d ≥ 0) = false from decide_eq_false hd0]
  exact Z
 have c_u := k't B 338 tbN (tbN_calls B) x.u d (by omega) (by omega) hd2
 have c_kn := k'5a B x.kind x.n
 have c_exs := All_Em_R B z_exs d (by omega) hd0 hd2 r_exs
 have c_attrs := k'1f B (a := x.attrs) z_attrs (d - 1) (by omega) (by omega) (by omega) r_attrs
 refine l_bw Tryz.func253 0 [] ?_
 rw [show decide (d ≥ 0) = decide (0 ≤ d) from rfl]
 cases e0 : (decide (0 ≤ d))
 ·exact Z
 refine Y ?_
 refine k'1w [] (c_kn) rfl rfl rfl rfl rfl ?_
 cases e1 : (mayNum x.kind x.n)
 ·exact Z
 refine Y ?_
 refine k'1w [] (c_exs) rfl rfl rfl rfl rfl ?_
 cases e2 : (x.exs.all fun k => k.may (d - 1))
 ·exact Z
 refine Y ?_
 rw [k'11 1 (by omega) (by omega) (by omega) hd2]
 refine k'1w [] (c_attrs) rfl rfl rfl rfl rfl ?_
 cases e3 : (x.attrs.all fun k => k.may (d - 1))
 ·exact Z
 refine Y ?_
 refine k'8 [] (c_u) rfl rfl rfl rfl rfl ?_
 exact Z
theorem All_Nb_calls : AllP B 252 NbSh := All_of B (All1_mk B Tryz.func334) (k'2m B Tryz.func410) (Cont_mk B Tryz.func333) (Allc_mk B Tryz.func252)
theorem All_Nb_R : AllRP B 252 253 Nb.R Nb.sz Nb.may := All_R B (All_Nb_calls B) Nb.Rs_sh (fun x => by unfold Nb.sz; omega) (Nb_May_calls B)
theorem Nb_Marshal_calls (x : Nb) (xa : D) (d : Int) (hbig : x.sz < big) (hwf : x.wf) (hx : x.R xa) (hd1 : -9223372036854775808 ≤ d) (hd2 : d < 9223372036854775808) : k'0 (cx B) 316 [.d xa, .d (.int .i64 d)] [] (if x.may d then .tup [sT x.mar, .d .nili] else .tup [sT [], .d (Er.code 8).d]) [] := by
 have hm := Nb_May_calls B x xa d hbig hx hd1 hd2
 have hlen := Nb.mar_len x
 have hlen : x.mar.length < big := by omega
 obtain ⟨z_attrs, l_attrs, z_exs, l_exs, rfl, r_attrs, r_exs⟩ := hx
 unfold Nb.sz at hbig
 cases hc : x.may d
 ·rw [hc] at hm
  refine l_bw Tryz.func316 0 [] ?_
  refine k'1 [] (hm) rfl rfl rfl ?_
  exact Z
 rw [hc] at hm
 have hc' := hc
 unfold Nb.may at hc'
 simp only [Bool.and_eq_true, decide_eq_true_eq] at hc'
 obtain ⟨⟨⟨⟨hd, m_kn⟩, m_exs⟩, m_attrs⟩, hu⟩ := hc'
 obtain ⟨w_attrs, w_start, w_time, w_n, w_exs, w_flags⟩ := hwf
 unfold Nb.mar Nb.hb at hlen ⊢
 obtain ⟨a0, ha0, c0⟩ := k'1o B 2 x.start (by omega) (by omega) (.nw 71 2) [] k'22 (by simp only [List.length_append, List.length_nil] at hlen ⊢; omega)
 rw [List.nil_append] at c0
 obtain ⟨a1, ha1, c1⟩ := k'1o B 3 x.time (by omega) (by omega) (a0) (fxV 2 x.start) ha0 (by simp only [List.length_append, List.length_nil] at hlen ⊢; omega)
 obtain ⟨a2, ha2, c2⟩ := wr_either B (x.kind == 1) 4 x.n (by omega) (by omega) (a1) (fxV 2 x.start ++ fxV 3 x.time) ha1 (by simp only [List.length_append, List.length_nil] at hlen ⊢; omega)
 obtain ⟨a3, ha3, c3⟩ := Parts_Em_R B 5 (by omega) (by omega) z_exs d (by omega) w_exs m_exs hd hd2 r_exs (a2) (fxV 2 x.start ++ fxV 3 x.time ++ opV 4 (x.kind == 1) x.n) ha2 (by simp only [List.length_append, List.length_nil] at hlen ⊢; omega)
 obtain ⟨a4, ha4, c4⟩ := wr_either B (x.kind == 2) 6 x.n (by omega) (by omega) (a3) (fxV 2 x.start ++ fxV 3 x.time ++ opV 4 (x.kind == 1) x.n ++ psV 5 (x.exs.map Em.mar)) ha3 (by simp only [List.length_append, List.length_nil] at hlen ⊢; omega)
 obtain ⟨a5, ha5, c5⟩ := k'34 B 7 (by omega) (by omega) z_attrs d (by omega) w_attrs m_attrs hd hd2 r_attrs (a4) (fxV 2 x.start ++ fxV 3 x.time ++ opV 4 (x.kind == 1) x.n ++ psV 5 (x.exs.map Em.mar) ++ opV 6 (x.kind == 2) x.n) ha4 (by simp only [List.length_append, List.length_nil] at hlen ⊢; omega)
 obtain ⟨a6, ha6, c6⟩ := wr_var B 8 x.flags (by omega) (by omega) (by omega) (a5) (fxV 2 x.start ++ fxV 3 x.time ++ opV 4 (x.kind == 1) x.n ++ psV 5 (x.exs.map Em.mar) ++ opV 6 (x.kind == 2) x.n ++ psV 7 (Kv.mars x.attrs)) ha5 (by simp only [List.length_append, List.length_nil] at hlen ⊢; omega)
 obtain ⟨cu, cs⟩ := k'26 B (s := x.u) ha6 (l := fxV 2 x.start ++ fxV 3 x.time ++ opV 4 (x.kind == 1) x.n ++ psV 5 (x.exs.map Em.mar) ++ opV 6 (x.kind == 2) x.n ++ psV 7 (Kv.mars x.attrs) ++ vrV 8 x.flags) (by simp only [List.length_append] at hlen ⊢; omega)
 generalize fxV 2 x.start ++ fxV 3 x.time ++ opV 4 (x.kind == 1) x.n ++ psV 5 (x.exs.map Em.mar) ++ opV 6 (x.kind == 2) x.n ++ psV 7 (Kv.mars x.attrs) ++ vrV 8 x.flags = o6 at c6 cu cs ⊢
 generalize fxV 2 x.start ++ fxV 3 x.time ++ opV 4 (x.kind == 1) x.n ++ psV 5 (x.exs.map Em.mar) ++ opV 6 (x.kind == 2) x.n ++ psV 7 (Kv.mars x.attrs) = o5 at c5 c6
 generalize fxV 2 x.start ++ fxV 3 x.time ++ opV 4 (x.kind == 1) x.n ++ psV 5 (x.exs.map Em.mar) ++ opV 6 (x.kind == 2) x.n = o4 at c4 c5
 generalize fxV 2 x.start ++ fxV 3 x.time ++ opV 4 (x.kind == 1) x.n ++ psV 5 (x.exs.map Em.mar) = o3 at c3 c4
 generalize fxV 2 x.start ++ fxV 3 x.time ++ opV 4 (x.kind == 1) x.n = o2 at c2 c3
 generalize fxV 2 x.start ++ fxV 3 x.time = o1 at c1 c2
 generalize fxV 2 x.start = o0 at c0 c1
 refine l_bw Tryz.func316 0 [] ?_
 refine l_cw [] (hm) rfl rfl rfl ?_
 refine l_wr [1] (c0) k'22 ha0 ?_
 refine l_wr [1] (c1) ha0 ha1 ?_
 refine l_wr [1] (c2) ha1 ha2 ?_
 refine l_wr [1] (c3) ha2 ha3 ?_
 refine l_wr [1] (c4) ha3 ha4 ?_
 refine l_wr [1] (c5) ha4 ha5 ?_
 rw [show IntKind.u64.wrap (x.flags : Int) = (x.flags : Int) by rw [IntKind.wrap_u64]; omega]
 refine l_wr [1] (c6) ha5 ha6 ?_
 refine l_wr [1] (cu) ha6 (.inl rfl) ?_
 refine k'1g [1] (cs) rfl rfl rfl rfl rfl rfl rfl (by decide) (by simp [k'5 (.inl rfl)]) rfl rfl rfl rfl ?_
 exact Z
theorem Parts_Nb_wr : PartsP B 315 NbSh := k'3j B Tryz.func315
theorem Parts_Nb_R : k'3o B 315 316 Nb.R Nb.sz Nb.wf Nb.may Nb.mar := Parts_R B (Parts_Nb_wr B) Nb.Rs_sh (Nb_Marshal_calls B)
theorem Nb_fits (l : List Nb) : ∀ a ∈ l.map Nb.d, a.fits 8 = true := by
 intro a ha
 obtain ⟨c, -, rfl⟩ := List.mem_map.1 ha
 rfl
theorem part_Nb_calls : partP B 362 Nb.d := k'2s B Tryz.func362
theorem List_Nb_calls : ListP B 284 Nb.d := List_S B (fun x => Nb_fits [x]) (part_Nb_calls B) (k'4u B Tryz.func284)
theorem List_Nb_tells : ListT B 284 Nb.d := k'1r B (List_Nb_calls B)
theorem okNb_rd (s : List UInt8) (d : Int) : okNb s d = (match k'd s d, k'3 (fun s => okK s (d - 1)) 7 (knB tbN s d), k'3 (fun s => okEm s (d - 1)) 5 (knB tbN s d) with
 | none, some attrs, some exs => some ⟨attrs, (k'6 (knB tbN s d) 2).n, (k'6 (knB tbN s d) 3).n, ((k'58 4 6 (oneF [4, 6] (knB tbN s d))).1 : Int), (k'58 4 6 (oneF [4, 6] (knB tbN s d))).2, exs, (k'6 (knB tbN s d) 8).n % 4294967296, unB tbN s d⟩
 | _, _, _ => none) := by
 unfold okNb
 rw [k'4a]
 cases k'd s d with
 | some e => rfl
 | none =>
  unfold tellNb
  simp only
  cases k'3 (fun s => okK s (d - 1)) 7 (knB tbN s d) with
  | none => rfl
  | some attrs =>
   cases k'3 (fun s => okEm s (d - 1)) 5 (knB tbN s d) with
   | none => rfl
   | some exs =>
    rfl
theorem Nb_read (hB : BOk B) (s : List UInt8) (d : Int) (hl : s.length < big) (hd1 : -9223372036854775808 ≤ d) (hd2 : d < 9223372036854775808) :
  RdZ B 285 Nb.d noNb (okNb s d) s d ∧ (∀ e0, k'd s d = some e0 → k'0 (cx B) 285 [sT s, .d (.int .i64 d)] [] (.tup [.d noNb.d, .d e0.d]) []) := by
 have h1 := k'o B hB 338 tbN (tbN_calls B) s d hl hd1 hd2
 have hk : LOk (knB tbN s d) := k'e tbN s d hl
 have hm := k'1p hk
 obtain ⟨vs_attrs, e1, c_attrs, t1⟩ := k'15 B hB (fun s => okK s (d - 1)) Kv.sh noKV 168 [] (k'd s d) (unB tbN s d) d s.length (knB tbN s d) 7 hk (fun h => by have := k'1u h; omega) hd2 (fun x hx hn => k'16 B hB x.s (d - 1) (lok_s hk hx) (by have := k'2e hx; omega) (by omega))
 obtain ⟨vs_exs, e2, c_exs, t2⟩ := k'4v B hB (fun s => okEm s (d - 1)) id noEm 364 [] e1 (unB tbN s d) d s.length (knB tbN s d) 5 hk (fun h => by have := k'1u h; omega) hd2 (fun x hx hn => (Em_read B hB x.s (d - 1) (lok_s hk hx) (by have := k'2e hx; omega) (by omega)).1.at)
 have hein : ∀ x, e2 = some x → EIn s.length x := t2.ein (t1.ein (fun x hx => k'n hx))
 have main : k'0 (cx B) 285 [sT s, .d (.int .i64 d)] [] (.tup [.d (orD e2 (.agg [slD (vs_attrs.map KVs.d), .int .u64 (k'6 (knB tbN s d) 2).n, .int .u64 (k'6 (knB tbN s d) 3).n, .int .i64 ((k'58 4 6 (oneF [4, 6] (knB tbN s d))).1 : Nat), .int .u64 ((k'58 4 6 (oneF [4, 6] (knB tbN s d))).2 : Nat), slD (vs_exs.map Em.d), .int .u32 ((k'6 (knB tbN s d) 8).n % 4294967296 : Nat), .str (unB tbN s d)]) noNb.d), .d (eD e2)]) [] := by
  clear hein t1 t2
  refine l_bw Tryz.func285 0 [] ?_
  refine l_cw [] (h1) rfl rfl rfl ?_
  refine k'3q (i0 := 16) (z := 17) (t0 := 7) rfl (by decide) rfl rfl rfl rfl rfl rfl rfl rfl rfl rfl ?_
  refine Y ?_
  refine x_cw [1] (c_attrs) rfl rfl rfl ?_
  refine x_cw [1] (k'9 B e1 (unB tbN s d) d s.length (knB tbN s d) 2 hm) rfl rfl rfl ?_
  refine x_cw [1] (k'9 B e1 (unB tbN s d) d s.length (knB tbN s d) 3 hm) rfl rfl rfl ?_
  refine x_cw [1] (c_exs) rfl rfl rfl ?_
  refine x_cw [1] (k'9 B e2 (unB tbN s d) d s.length (knB tbN s d) 8 hm) rfl rfl rfl ?_
  rw [u32w]
  refine l_cw [1] (rNumber_calls B e2 (unB tbN s d) d s.length (knB tbN s d) 4 6 hk) rfl rfl rfl ?_
  cases e2 with
  | none =>
   exact Z
  | some er =>
   cases er <;> (
   exact Z)
 constructor
 ·rw [okNb_rd]
  cases e2 with
  | none =>
   obtain ⟨k1, a_exs, g_exs, v_exs⟩ := t2.ok
   subst k1
   obtain ⟨k0, a_attrs, g_attrs, v_attrs⟩ := t1.ok
   rw [k0, g_attrs, g_exs]
   subst v_attrs
   rw [List.map_id] at v_exs
   subst v_exs
   rw [ks_map a_attrs] at main
   exact main
  | some er =>
   have hno : (match k'd s d, k'3 (fun s => okK s (d - 1)) 7 (knB tbN s d), k'3 (fun s => okEm s (d - 1)) 5 (knB tbN s d) with
    | none, some attrs, some exs => some (⟨attrs, (k'6 (knB tbN s d) 2).n, (k'6 (knB tbN s d) 3).n, ((k'58 4 6 (oneF [4, 6] (knB tbN s d))).1 : Int), (k'58 4 6 (oneF [4, 6] (knB tbN s d))).2, exs, (k'6 (knB tbN s d) 8).n % 4294967296, unB tbN s d⟩ : Nb)
    | _, _, _ => none) = none := by
    cases hr : k'd s d with
    | some x => rfl
    | none =>
     rw [hr] at t1
     cases hp0 : k'3 (fun s => okK s (d - 1)) 7 (knB tbN s d) with
     | none => rfl
     | some a0 =>
      rw [hp0] at t1
      obtain ⟨-, q0⟩ := t1.get
      subst q0
      cases hp1 : k'3 (fun s => okEm s (d - 1)) 5 (knB tbN s d) with
      | none => split <;> simp_all
      | some a1 =>
       rw [hp1] at t2
       have := t2.get.2; simp at this
   rw [hno]
   exact ⟨er, hein er rfl, main⟩
 ·intro e0 he
  rw [he] at t1
  have k1 := t1.keep
  subst k1
  have k2 := t2.keep
  subst k2
  exact main
end
