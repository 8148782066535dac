/- Exemplar: what they are, their bytes, what may be, what is read. -/
import Derived.Test.YtcfkbpddmdfbaaaGreatDoorPAB
set_option linter.unusedSimpArgs false
set_option linter.unusedVariables false
set_option maxRecDepth 100000
namespace Go.Proofs.YtcfkbpddmdfbaaaGreatDoor
open Go Go.Abs
variable (B : Fr)
section
structure Em where
 attrs : List Kv
 time : Nat
 kind : Int
 n : Nat
 span : List UInt8
 trace : List UInt8
 u : List UInt8
def Em.hb (x : Em) : List UInt8 := fxV 2 x.time ++ opV 3 (x.kind == 1) x.n ++ txV 4 x.span ++ txV 5 x.trace ++ opV 6 (x.kind == 2) x.n ++ psV 7 (Kv.mars x.attrs)
def Em.hF (x : Em) : List Fld := fxF 2 x.time ++ opF 3 (x.kind == 1) x.n ++ txF 4 x.span ++ txF 5 x.trace ++ opF 6 (x.kind == 2) x.n ++ psF 7 (Kv.mars x.attrs)
def Em.mar (x : Em) : List UInt8 := x.hb ++ x.u
def tbE (n k : Nat) : Bool := bif [2, 3, 6].contains n then k == 1 else bif [4, 5, 7].contains n then k == 2 else false
theorem tbE_calls (n k : Nat) : k'0 (cx B) 411 [iT n, iT k] [] (.d (.bool (tbE n k))) [] := by
 refine l_bw Tryz.func411 0 [] ?_
 cases h0 : ((n : Int) == 2) with
 | true =>
  have e : n = 2 := by have := eq_of_beq h0; omega
  subst e
  rw [show tbE 2 k = ((k : Int) == 1) from (ibeq k 1).symm]
  exact Z
 | false =>
 have eh0 : n ≠ 2 := by have := ne_of_beq_false h0; omega
 refine Y ?_
 cases h1 : ((n : Int) == 3) with
 | true =>
  have e : n = 3 := by have := eq_of_beq h1; omega
  subst e
  rw [show tbE 3 k = ((k : Int) == 1) from (ibeq k 1).symm]
  exact Z
 | false =>
 have eh1 : n ≠ 3 := by have := ne_of_beq_false h1; omega
 refine Y ?_
 cases h2 : ((n : Int) == 6) with
 | true =>
  have e : n = 6 := by have := eq_of_beq h2; omega
  subst e
  rw [show tbE 6 k = ((k : Int) == 1) from (ibeq k 1).symm]
  exact Z
 | false =>
 have eh2 : n ≠ 6 := by have := ne_of_beq_false h2; omega
 refine Y ?_
 cases h3 : ((n : Int) == 4) with
 | true =>
  have e : n = 4 := by have := eq_of_beq h3; omega
  subst e
  rw [show tbE 4 k = ((k : Int) == 2) from (ibeq k 2).symm]
  exact Z
 | false =>
 have eh3 : n ≠ 4 := by have := ne_of_beq_false h3; omega
 refine Y ?_
 cases h4 : ((n : Int) == 5) with
 | true =>
  have e : n = 5 := by have := eq_of_beq h4; omega
  subst e
  rw [show tbE 5 k = ((k : Int) == 2) from (ibeq k 2).symm]
  exact Z
 | false =>
 have eh4 : n ≠ 5 := by have := ne_of_beq_false h4; omega
 refine Y ?_
 cases h5 : ((n : Int) == 7) with
 | true =>
  have e : n = 7 := by have := eq_of_beq h5; omega
  subst e
  rw [show tbE 7 k = ((k : Int) == 2) from (ibeq k 2).symm]
  exact Z
 | false =>
 have eh5 : n ≠ 7 := by have := ne_of_beq_false h5; omega
 refine Y ?_
 rw [show tbE n k = false from by unfold tbE; simp [eh0, eh1, eh2, eh3, eh4, eh5]]
 exact k'i rfl
def Em.wf (x : Em) : Prop := (∀ k ∈ x.attrs, k.wf) ∧ x.time < 2 ^ 64 ∧ x.n < 2 ^ 64
def Em.sz (x : Em) : Nat := 300 + Kv.szs x.attrs + x.span.length + x.trace.length + x.u.length
def Em.may (x : Em) (d : Int) : Bool := decide (0 ≤ d) && mayNum x.kind x.n && (x.attrs.all fun k => k.may (d - 1)) && k'1a tbE x.u d
theorem Em.hb_len (x : Em) : x.mar.length + 20 ≤ x.sz := by
 have q0 := k'2e 2 x.time
 have q1 := k'4f 3 (x.kind == 1) x.n
 have q2 := k'3m 4 x.span
 have q3 := k'3m 5 x.trace
 have q4 := k'4f 6 (x.kind == 2) x.n
 have q5 := Kv.marsP_len 7 x.attrs
 unfold Em.mar Em.hb Em.sz
 simp only [List.length_append]
 omega
theorem Em.mar_len (x : Em) : x.mar.length + 20 ≤ x.sz := Em.hb_len x
theorem Em.mars_lt {l : List Em} (h : (l.map Em.sz).sum < big) : ∀ s ∈ l.map Em.mar, s.length < 2 ^ 64 := fun s hs => by
 obtain ⟨k, hk, rfl⟩ := List.mem_map.1 hs
 have h1 := Em.mar_len k; have h2 := k'x (sz := Em.sz) hk
 unfold big at h; omega
theorem Em.all {x : Em} (h1 : x.sz < big) (h2 : x.wf) (d : Int) : all x.hb d = .ok x.hF := by
 unfold Em.sz big at h1
 obtain ⟨w0, w1, w2⟩ := h2
 exact k'4 (k'4 (k'4 (k'4 (k'4 (k'41 (by omega) (by omega) d (by omega)) (all_op (by omega) (by omega) d _ (by omega))) (all_tx (by omega) (by omega) d (by omega))) (all_tx (by omega) (by omega) d (by omega))) (all_op (by omega) (by omega) d _ (by omega))) (k'40 (by omega) (by omega) d (Kv.mars_lt (by unfold big; omega)))
def tellEm (d : Int) (l : List Fld) : Option (List UInt8 → Em) :=
 match k'1o (fun s => okK s (d - 1)) 7 l with
 | none => none
 | some attrs =>
 some fun u => ⟨attrs, (k'19 l 2).n, ((numKN 3 6 (oneF [3, 6] l)).1 : Int), (numKN 3 6 (oneF [3, 6] l)).2, (k'19 l 4).s, (k'19 l 5).s, u⟩
def okEm (s : List UInt8) (d : Int) : Option Em := apO (okG tbE tellEm s d)
theorem Em.tell {x : Em} (hwf : x.wf) (hnum : mayNum x.kind x.n = true) (d : Int) : tellEm d x.hF = (
 match mapO (fun s => okK s (d - 1)) (Kv.mars x.attrs) with
 | none => none
 | some attrs =>
 some fun u => ⟨attrs, x.time, x.kind, x.n, x.span, x.trace, u⟩) := by
 obtain ⟨w0, w1, w2⟩ := hwf
 have sattrs : sel 7 x.hF = psF 7 (Kv.mars x.attrs) := by unfold Em.hF; simp [k'b, k'u, k's, k't, k'q, k'p]
 have tattrs : ∀ {α : Type} (ok : List UInt8 → Option α), k'1o ok 7 x.hF = mapO ok (Kv.mars x.attrs) := fun ok => k'2g ok sattrs
 have stime : sel 2 x.hF = fxF 2 x.time := by unfold Em.hF; simp [k'b, k'u, k's, k't, k'q, k'p]
 have ttime : (k'19 x.hF 2).n = x.time := k'2c stime
 have skn : selN [3, 6] x.hF = opF 3 (x.kind == 1) x.n ++ opF 6 (x.kind == 2) x.n := by unfold Em.hF; simp [selN_app, selN_fx, selN_vr, selN_op, selN_tx, selN_ps]
 have tkn : numKN 3 6 (oneF [3, 6] x.hF) = (x.kind.toNat, x.n) := by rw [← oneF_selN, skn]; exact tell_num (by omega) (by omega) (by omega) hnum
 have kkn : (x.kind.toNat : Int) = x.kind := by unfold mayNum at hnum; simp at hnum; omega
 have sspan : sel 4 x.hF = txF 4 x.span := by unfold Em.hF; simp [k'b, k'u, k's, k't, k'q, k'p]
 have tspan : (k'19 x.hF 4).s = x.span := last_tx sspan
 have strace : sel 5 x.hF = txF 5 x.trace := by unfold Em.hF; simp [k'b, k'u, k's, k't, k'q, k'p]
 have ttrace : (k'19 x.hF 5).s = x.trace := last_tx strace
 unfold tellEm
 simp only [tattrs, ttime, tkn, kkn, tspan, ttrace]
def Em.eq (x y : Em) : Bool := Kv.eqs x.attrs y.attrs && x.time == y.time && x.kind == y.kind && x.n == y.n && x.span == y.span && x.trace == y.trace && x.u == y.u
def Em.eqs : List Em → List Em → Bool
 | [], [] => true
 | v :: l, w :: r => v.eq w && Em.eqs l r
 | [], _ :: _ => false
 | _ :: _, [] => false
theorem Em.eq_self (x : Em) : x.eq x = true := by unfold Em.eq; simp [Kv.eqs_self]
theorem Em.eqs_self : ∀ l : List Em, Em.eqs l l = true
 | [] => rfl
 | v :: l => by unfold Em.eqs; simp [Em.eq_self v, Em.eqs_self l]
theorem Em.eqs_by (a b : List Em) : Em.eqs a b = (a.length == b.length && (List.range a.length).all (byI Em.eq a b)) :=
 k'3i Em.eq Em.eqs rfl (fun _ _ _ _ => rfl) (fun _ _ => rfl) (fun _ _ => rfl) a b
end
section
def Em.d (x : Em) : D := .agg [slD (Kv.ds x.attrs), .int .u64 x.time, .int .i64 x.kind, .int .u64 x.n, .str x.span, .str x.trace, .str x.u]
def Em.R (x : Em) (a : D) : Prop := ∃ (z_attrs : Bool) (l_attrs : List D), a = .agg [.sl z_attrs l_attrs, .int .u64 x.time, .int .i64 x.kind, .int .u64 x.n, .str x.span, .str x.trace, .str x.u] ∧ Kv.Rs x.attrs l_attrs
def EmSh (x : D) : Prop := ∃ (a0 : Bool) (a1 : List D) (a2 : Nat) (a3 : Int) (a4 : Nat) (a5 : List UInt8) (a6 : List UInt8) (a7 : List UInt8), x = .agg [.sl a0 a1, .int .u64 a2, .int .i64 a3, .int .u64 a4, .str a5, .str a6, .str a7]
theorem Em.R_sh {x : Em} {a : D} (h : x.R a) : EmSh a := by
 obtain ⟨z_attrs, l_attrs, h, -⟩ := h
 exact ⟨_, _, _, _, _, _, _, _, h⟩
theorem Em.d_R (x : Em) : x.R x.d := ⟨_, _, rfl, Kv.ds_R _⟩
theorem Em.Rs_sh {l : List Em} {xs : List D} (h : RsOf Em.R l xs) : ∀ x ∈ xs, EmSh x := fun x hx => by
 obtain ⟨v, -, r⟩ := h.mem hx
 exact Em.R_sh r
theorem Em_May_calls (x : Em) (xa : D) (d : Int) (hbig : x.sz < big) (hx : x.R xa) (hd1 : -9223372036854775808 ≤ d) (hd2 : d < 9223372036854775808) : k'0 (cx B) 335 [.d xa, .d (.int .i64 d)] [] (.d (.bool (x.may d))) [] := by
 obtain ⟨z_attrs, l_attrs, rfl, r_attrs⟩ := hx
 unfold Em.sz at hbig
 unfold Em.may
 by_cases hd0 : 0 ≤ d
 rotate_left
 ·rw [show decide (0 ≤ d) = false from decide_eq_false hd0]
  refine l_bw Tryz.func335 0 [] ?_
  rw [show decide (d ≥ 0) = false from decide_eq_false hd0]
  exact Z
 have c_u := k'o B 411 tbE (tbE_calls B) x.u d (by omega) (by omega) hd2
 have c_kn := k'4h B x.kind x.n
 have c_attrs := k'1d B (a := x.attrs) z_attrs (d - 1) (by omega) (by omega) (by omega) r_attrs
 refine l_bw Tryz.func335 0 [] ?_
 rw [show decide (d ≥ 0) = decide (0 ≤ d) from rfl]
 cases e0 : (decide (0 ≤ d))
 ·exact Z
 refine Y ?_
 refine k'23 [] (c_kn) rfl rfl rfl rfl rfl ?_
 cases e1 : (mayNum x.kind x.n)
 ·exact Z
 refine Y ?_
 rw [k'5 1 (by omega) (by omega) (by omega) hd2]
 refine k'23 [] (c_attrs) rfl rfl rfl rfl rfl ?_
 cases e2 : (x.attrs.all fun k => k.may (d - 1))
 ·exact Z
 refine Y ?_
 refine k'a [] (c_u) rfl rfl rfl rfl rfl ?_
 exact Z
theorem All_Em_calls : AllP B 334 EmSh := All_of B (All1_mk B Tryz.func410) (k'2a B Tryz.func441) (Cont_mk B Tryz.func409) (Allc_mk B Tryz.func334)
theorem All_Em_R : AllRP B 334 335 Em.R Em.sz Em.may := All_R B (All_Em_calls B) Em.Rs_sh (fun x => by unfold Em.sz; omega) (Em_May_calls B)
theorem Em_Marshal_calls (x : Em) (xa : D) (d : Int) (hbig : x.sz < big) (hwf : x.wf) (hx : x.R xa) (hd1 : -9223372036854775808 ≤ d) (hd2 : d < 9223372036854775808) : k'0 (cx B) 392 [.d xa, .d (.int .i64 d)] [] (if x.may d then .tup [sT x.mar, .d .nili] else .tup [sT [], .d (Er.code 8).d]) [] := by
 have hm := Em_May_calls B x xa d hbig hx hd1 hd2
 have hlen := Em.mar_len x
 have hlen : x.mar.length < big := by omega
 obtain ⟨z_attrs, l_attrs, rfl, r_attrs⟩ := hx
 unfold Em.sz at hbig
 cases hc : x.may d
 ·rw [hc] at hm
  refine l_bw Tryz.func392 0 [] ?_
  refine k'2 [] (hm) rfl rfl rfl ?_
  exact Z
 rw [hc] at hm
 have hc' := hc
 unfold Em.may at hc'
 simp only [Bool.and_eq_true, decide_eq_true_eq] at hc'
 obtain ⟨⟨⟨hd, m_kn⟩, m_attrs⟩, hu⟩ := hc'
 obtain ⟨w_attrs, w_time, w_n⟩ := hwf
 unfold Em.mar Em.hb at hlen ⊢
 obtain ⟨a0, ha0, c0⟩ := k'1m B 2 x.time (by omega) (by omega) (.nw 71 2) [] k'1z (by simp only [List.length_append, List.length_nil] at hlen ⊢; omega)
 rw [List.nil_append] at c0
 obtain ⟨a1, ha1, c1⟩ := wr_either B (x.kind == 1) 3 x.n (by omega) (by omega) (a0) (fxV 2 x.time) ha0 (by simp only [List.length_append, List.length_nil] at hlen ⊢; omega)
 obtain ⟨a2, ha2, c2⟩ := k'24 B 4 x.span (by omega) (by omega) (a1) (fxV 2 x.time ++ opV 3 (x.kind == 1) x.n) ha1 (by simp only [List.length_append, List.length_nil] at hlen ⊢; omega)
 obtain ⟨a3, ha3, c3⟩ := k'24 B 5 x.trace (by omega) (by omega) (a2) (fxV 2 x.time ++ opV 3 (x.kind == 1) x.n ++ txV 4 x.span) ha2 (by simp only [List.length_append, List.length_nil] at hlen ⊢; omega)
 obtain ⟨a4, ha4, c4⟩ := wr_either B (x.kind == 2) 6 x.n (by omega) (by omega) (a3) (fxV 2 x.time ++ opV 3 (x.kind == 1) x.n ++ txV 4 x.span ++ txV 5 x.trace) ha3 (by simp only [List.length_append, List.length_nil] at hlen ⊢; omega)
 obtain ⟨a5, ha5, c5⟩ := k'2n B 7 (by omega) (by omega) z_attrs d (by omega) w_attrs m_attrs hd hd2 r_attrs (a4) (fxV 2 x.time ++ opV 3 (x.kind == 1) x.n ++ txV 4 x.span ++ txV 5 x.trace ++ opV 6 (x.kind == 2) x.n) ha4 (by simp only [List.length_append, List.length_nil] at hlen ⊢; omega)
 obtain ⟨cu, cs⟩ := k'21 B (s := x.u) ha5 (l := fxV 2 x.time ++ opV 3 (x.kind == 1) x.n ++ txV 4 x.span ++ txV 5 x.trace ++ opV 6 (x.kind == 2) x.n ++ psV 7 (Kv.mars x.attrs)) (by simp only [List.length_append] at hlen ⊢; omega)
 generalize fxV 2 x.time ++ opV 3 (x.kind == 1) x.n ++ txV 4 x.span ++ txV 5 x.trace ++ opV 6 (x.kind == 2) x.n ++ psV 7 (Kv.mars x.attrs) = o5 at c5 cu cs ⊢
 generalize fxV 2 x.time ++ opV 3 (x.kind == 1) x.n ++ txV 4 x.span ++ txV 5 x.trace ++ opV 6 (x.kind == 2) x.n = o4 at c4 c5
 generalize fxV 2 x.time ++ opV 3 (x.kind == 1) x.n ++ txV 4 x.span ++ txV 5 x.trace = o3 at c3 c4
 generalize fxV 2 x.time ++ opV 3 (x.kind == 1) x.n ++ txV 4 x.span = o2 at c2 c3
 generalize fxV 2 x.time ++ opV 3 (x.kind == 1) x.n = o1 at c1 c2
 generalize fxV 2 x.time = o0 at c0 c1
 refine l_bw Tryz.func392 0 [] ?_
 refine l_cw [] (hm) rfl rfl rfl ?_
 refine l_wr [1] (c0) k'1z ha0 ?_
 refine l_wr [1] (c1) ha0 ha1 ?_
 refine l_wr [1] (c2) ha1 ha2 ?_
 refine l_wr [1] (c3) ha2 ha3 ?_
 refine l_wr [1] (c4) ha3 ha4 ?_
 refine l_wr [1] (c5) ha4 ha5 ?_
 refine l_wr [1] (cu) ha5 (.inl rfl) ?_
 refine k'1f [1] (cs) rfl rfl rfl rfl rfl rfl rfl (by decide) (by simp [k'6 (.inl rfl)]) rfl rfl rfl rfl ?_
 exact Z
theorem Parts_Em_wr : PartsP B 391 EmSh := k'33 B Tryz.func391
theorem Parts_Em_R : k'35 B 391 392 Em.R Em.sz Em.wf Em.may Em.mar := Parts_R B (Parts_Em_wr B) Em.Rs_sh (Em_Marshal_calls B)
end
section
structure Nb where
 attrs : List Kv
 start : Nat
 time : Nat
 kind : Int
 n : Nat
 exs : List Em
 flags : Nat
 u : List UInt8
def Nb.hb (x : Nb) : List UInt8 := fxV 2 x.start ++ fxV 3 x.time ++ opV 4 (x.kind == 1) x.n ++ psV 5 (x.exs.map Em.mar) ++ opV 6 (x.kind == 2) x.n ++ psV 7 (Kv.mars x.attrs) ++ vrV 8 x.flags
def Nb.hF (x : Nb) : List Fld := fxF 2 x.start ++ fxF 3 x.time ++ opF 4 (x.kind == 1) x.n ++ psF 5 (x.exs.map Em.mar) ++ opF 6 (x.kind == 2) x.n ++ psF 7 (Kv.mars x.attrs) ++ vrF 8 x.flags
def Nb.mar (x : Nb) : List UInt8 := x.hb ++ x.u
def tbN (n k : Nat) : Bool := bif [2, 3, 4, 6].contains n then k == 1 else bif [5, 7].contains n then k == 2 else bif [8].contains n then k == 0 else false
theorem tbN_calls (n k : Nat) : k'0 (cx B) 336 [iT n, iT k] [] (.d (.bool (tbN n k))) [] := by
 refine l_bw Tryz.func336 0 [] ?_
 cases h0 : ((n : Int) == 2) with
 | true =>
  have e : n = 2 := by have := eq_of_beq h0; omega
  subst e
  rw [show tbN 2 k = ((k : Int) == 1) from (ibeq k 1).symm]
  exact Z
 | false =>
 have eh0 : n ≠ 2 := by have := ne_of_beq_false h0; omega
 refine Y ?_
 cases h1 : ((n : Int) == 3) with
 | true =>
  have e : n = 3 := by have := eq_of_beq h1; omega
  subst e
  rw [show tbN 3 k = ((k : Int) == 1) from (ibeq k 1).symm]
  exact Z
 | false =>
 have eh1 : n ≠ 3 := by have := ne_of_beq_false h1; omega
 refine Y ?_
 cases h2 : ((n : Int) == 4) with
 | true =>
  have e : n = 4 := by have := eq_of_beq h2; omega
  subst e
  rw [show tbN 4 k = ((k : Int) == 1) from (ibeq k 1).symm]
  exact Z
 | false =>
 have eh2 : n ≠ 4 := by have := ne_of_beq_false h2; omega
 refine Y ?_
 cases h3 : ((n : Int) == 6) with
 | true =>
  have e : n = 6 := by have := eq_of_beq h3; omega
  subst e
  rw [show tbN 6 k = ((k : Int) == 1) from (ibeq k 1).symm]
  exact Z
 | false =>
 have eh3 : n ≠ 6 := by have := ne_of_beq_false h3; omega
 refine Y ?_
 cases h4 : ((n : Int) == 5) with
 | true =>
  have e : n = 5 := by have := eq_of_beq h4; omega
  subst e
  rw [show tbN 5 k = ((k : Int) == 2) from (ibeq k 2).symm]
  exact Z
 | false =>
 have eh4 : n ≠ 5 := by have := ne_of_beq_false h4; omega
 refine Y ?_
 cases h5 : ((n : Int) == 7) with
 | true =>
  have e : n = 7 := by have := eq_of_beq h5; omega
  subst e
  rw [show tbN 7 k = ((k : Int) == 2) from (ibeq k 2).symm]
  exact Z
 | false =>
 have eh5 : n ≠ 7 := by have := ne_of_beq_false h5; omega
 refine Y ?_
 cases h6 : ((n : Int) == 8) with
 | true =>
  have e : n = 8 := by have := eq_of_beq h6; omega
  subst e
  rw [show tbN 8 k = ((k : Int) == 0) from (ibeq k 0).symm]
  exact Z
 | false =>
 have eh6 : n ≠ 8 := by have := ne_of_beq_false h6; omega
 refine Y ?_
 rw [show tbN n k = false from by unfold tbN; simp [eh0, eh1, eh2, eh3, eh4, eh5, eh6]]
 exact k'i rfl
def Nb.wf (x : Nb) : Prop := (∀ k ∈ x.attrs, k.wf) ∧ x.start < 2 ^ 64 ∧ x.time < 2 ^ 64 ∧ x.n < 2 ^ 64 ∧ (∀ k ∈ x.exs, k.wf) ∧ x.flags < 4294967296
def Nb.sz (x : Nb) : Nat := 300 + Kv.szs x.attrs + (x.exs.map Em.sz).sum + x.u.length
def Nb.may (x : Nb) (d : Int) : Bool := decide (0 ≤ d) && mayNum x.kind x.n && (x.exs.all fun k => k.may (d - 1)) && (x.attrs.all fun k => k.may (d - 1)) && k'1a tbN x.u d
theorem Nb.hb_len (x : Nb) : x.mar.length + 20 ≤ x.sz := by
 have q0 := k'2e 2 x.start
 have q1 := k'2e 3 x.time
 have q2 := k'4f 4 (x.kind == 1) x.n
 have q3 := k'1v 5 x.exs fun y _ => Em.mar_len y
 have q4 := k'4f 6 (x.kind == 2) x.n
 have q5 := Kv.marsP_len 7 x.attrs
 have q6 := k'3d 8 x.flags
 unfold Nb.mar Nb.hb Nb.sz
 simp only [List.length_append]
 omega
theorem Nb.mar_len (x : Nb) : x.mar.length + 20 ≤ x.sz := Nb.hb_len x
theorem Nb.mars_lt {l : List Nb} (h : (l.map Nb.sz).sum < big) : ∀ s ∈ l.map Nb.mar, s.length < 2 ^ 64 := fun s hs => by
 obtain ⟨k, hk, rfl⟩ := List.mem_map.1 hs
 have h1 := Nb.mar_len k; have h2 := k'x (sz := Nb.sz) hk
 unfold big at h; omega
theorem Nb.all {x : Nb} (h1 : x.sz < big) (h2 : x.wf) (d : Int) : all x.hb d = .ok x.hF := by
 unfold Nb.sz big at h1
 obtain ⟨w0, w1, w2, w3, w4, w5⟩ := h2
 exact k'4 (k'4 (k'4 (k'4 (k'4 (k'4 (k'41 (by omega) (by omega) d (by omega)) (k'41 (by omega) (by omega) d (by omega))) (all_op (by omega) (by omega) d _ (by omega))) (k'40 (by omega) (by omega) d (Em.mars_lt (by unfold big; omega)))) (all_op (by omega) (by omega) d _ (by omega))) (k'40 (by omega) (by omega) d (Kv.mars_lt (by unfold big; omega)))) (all_vr (by omega) (by omega) d (by omega))
def tellNb (d : Int) (l : List Fld) : Option (List UInt8 → Nb) :=
 match k'1o (fun s => okK s (d - 1)) 7 l with
 | none => none
 | some attrs =>
 match k'1o (fun s => okEm s (d - 1)) 5 l with
 | none => none
 | some exs =>
 some fun u => ⟨attrs, (k'19 l 2).n, (k'19 l 3).n, ((numKN 4 6 (oneF [4, 6] l)).1 : Int), (numKN 4 6 (oneF [4, 6] l)).2, exs, (k'19 l 8).n % 4294967296, u⟩
def okNb (s : List UInt8) (d : Int) : Option Nb := apO (okG tbN tellNb s d)
theorem Nb.tell {x : Nb} (hwf : x.wf) (hnum : mayNum x.kind x.n = true) (d : Int) : tellNb d x.hF = (
 match mapO (fun s => okK s (d - 1)) (Kv.mars x.attrs) with
 | none => none
 | some attrs =>
 match mapO (fun s => okEm s (d - 1)) ((x.exs.map Em.mar)) with
 | none => none
 | some exs =>
 some fun u => ⟨attrs, x.start, x.time, x.kind, x.n, exs, x.flags, u⟩) := by
 obtain ⟨w0, w1, w2, w3, w4, w5⟩ := hwf
 have sattrs : sel 7 x.hF = psF 7 (Kv.mars x.attrs) := by unfold Nb.hF; simp [k'b, k'u, k's, k't, k'q, k'p]
 have tattrs : ∀ {α : Type} (ok : List UInt8 → Option α), k'1o ok 7 x.hF = mapO ok (Kv.mars x.attrs) := fun ok => k'2g ok sattrs
 have sstart : sel 2 x.hF = fxF 2 x.start := by unfold Nb.hF; simp [k'b, k'u, k's, k't, k'q, k'p]
 have tstart : (k'19 x.hF 2).n = x.start := k'2c sstart
 have stime : sel 3 x.hF = fxF 3 x.time := by unfold Nb.hF; simp [k'b, k'u, k's, k't, k'q, k'p]
 have ttime : (k'19 x.hF 3).n = x.time := k'2c stime
 have skn : selN [4, 6] x.hF = opF 4 (x.kind == 1) x.n ++ opF 6 (x.kind == 2) x.n := by unfold Nb.hF; simp [selN_app, selN_fx, selN_vr, selN_op, selN_tx, selN_ps]
 have tkn : numKN 4 6 (oneF [4, 6] x.hF) = (x.kind.toNat, x.n) := by rw [← oneF_selN, skn]; exact tell_num (by omega) (by omega) (by omega) hnum
 have kkn : (x.kind.toNat : Int) = x.kind := by unfold mayNum at hnum; simp at hnum; omega
 have sexs : sel 5 x.hF = psF 5 (x.exs.map Em.mar) := by unfold Nb.hF; simp [k'b, k'u, k's, k't, k'q, k'p]
 have texs : ∀ {α : Type} (ok : List UInt8 → Option α), k'1o ok 5 x.hF = mapO ok ((x.exs.map Em.mar)) := fun ok => k'2g ok sexs
 have sflags : sel 8 x.hF = vrF 8 x.flags := by unfold Nb.hF; simp [k'b, k'u, k's, k't, k'q, k'p]
 have tflags : (k'19 x.hF 8).n % 4294967296 = x.flags := by rw [last_vr sflags]; omega
 unfold tellNb
 simp only [tattrs, tstart, ttime, tkn, kkn, texs, tflags]
def Nb.eq (x y : Nb) : Bool := Kv.eqs x.attrs y.attrs && x.start == y.start && x.time == y.time && x.kind == y.kind && x.n == y.n && Em.eqs x.exs y.exs && x.flags == y.flags && x.u == y.u
def Nb.eqs : List Nb → List Nb → Bool
 | [], [] => true
 | v :: l, w :: r => v.eq w && Nb.eqs l r
 | [], _ :: _ => false
 | _ :: _, [] => false
theorem Nb.eq_self (x : Nb) : x.eq x = true := by unfold Nb.eq; simp [Kv.eqs_self, Em.eqs_self]
theorem Nb.eqs_self : ∀ l : List Nb, Nb.eqs l l = true
 | [] => rfl
 | v :: l => by unfold Nb.eqs; simp [Nb.eq_self v, Nb.eqs_self l]
theorem Nb.eqs_by (a b : List Nb) : Nb.eqs a b = (a.length == b.length && (List.range a.length).all (byI Nb.eq a b)) :=
 k'3i Nb.eq Nb.eqs rfl (fun _ _ _ _ => rfl) (fun _ _ => rfl) (fun _ _ => rfl) a b
end
section
def Nb.d (x : Nb) : D := .agg [slD (Kv.ds x.attrs), .int .u64 x.start, .int .u64 x.time, .int .i64 x.kind, .int .u64 x.n, slD (x.exs.map Em.d), .int .u32 x.flags, .str x.u]
def Nb.R (x : Nb) (a : D) : Prop := ∃ (z_attrs : Bool) (l_attrs : List D) (z_exs : Bool) (l_exs : List D), a = .agg [.sl z_attrs l_attrs, .int .u64 x.start, .int .u64 x.time, .int .i64 x.kind, .int .u64 x.n, .sl z_exs l_exs, .int .u32 x.flags, .str x.u] ∧ Kv.Rs x.attrs l_attrs ∧ RsOf Em.R x.exs l_exs
def NbSh (x : D) : Prop := ∃ (a0 : Bool) (a1 : List D) (a2 : Nat) (a3 : Nat) (a4 : Int) (a5 : Nat) (a6 : Bool) (a7 : List D) (a8 : Nat) (a9 : List UInt8), x = .agg [.sl a0 a1, .int .u64 a2, .int .u64 a3, .int .i64 a4, .int .u64 a5, .sl a6 a7, .int .u32 a8, .str a9]
theorem Nb.R_sh {x : Nb} {a : D} (h : x.R a) : NbSh a := by
 obtain ⟨z_attrs, l_attrs, z_exs, l_exs, h, -⟩ := h
 exact ⟨_, _, _, _, _, _, _, _, _, _, h⟩
theorem Nb.d_R (x : Nb) : x.R x.d := ⟨_, _, _, _, rfl, Kv.ds_R _, RsOf.map Em.d_R _⟩
theorem Nb.Rs_sh {l : List Nb} {xs : List D} (h : RsOf Nb.R l xs) : ∀ x ∈ xs, NbSh x := fun x hx => by
 obtain ⟨v, -, r⟩ := h.mem hx
 exact Nb.R_sh r
theorem Nb_May_calls (x : Nb) (xa : D) (d : Int) (hbig : x.sz < big) (hx : x.R xa) (hd1 : -9223372036854775808 ≤ d) (hd2 : d < 9223372036854775808) : k'0 (cx B) 251 [.d xa, .d (.int .i64 d)] [] (.d (.bool (x.may d))) [] := by
 obtain ⟨z_attrs, l_attrs, z_exs, l_exs, rfl, r_attrs, r_exs⟩ := hx
 unfold Nb.sz at hbig
 unfold Nb.may
 by_cases hd0 : 0 ≤ d
 rotate_left
 ·rw [show decide (0 ≤ d) = false from decide_eq_false hd0]
  refine l_bw Tryz.func251 0 [] ?_
  rw [show decide (d ≥ 0) = false from decide_eq_false hd0]
  exact Z
 have c_u := k'o B 336 tbN (tbN_calls B) x.u d (by omega) (by omega) hd2
 have c_kn := k'4h B x.kind x.n
 have c_exs := All_Em_R B z_exs d (by omega) hd0 hd2 r_exs
 have c_attrs := k'1d B (a := x.attrs) z_attrs (d - 1) (by omega) (by omega) (by omega) r_attrs
 refine l_bw Tryz.func251 0 [] ?_
 rw [show decide (d ≥ 0) = decide (0 ≤ d) from rfl]
 cases e0 : (decide (0 ≤ d))
 ·exact Z
 refine Y ?_
 refine k'23 [] (c_kn) rfl rfl rfl rfl rfl ?_
 cases e1 : (mayNum x.kind x.n)
 ·exact Z
 refine Y ?_
 refine k'23 [] (c_exs) rfl rfl rfl rfl rfl ?_
 cases e2 : (x.exs.all fun k => k.may (d - 1))
 ·exact Z
 refine Y ?_
 rw [k'5 1 (by omega) (by omega) (by omega) hd2]
 refine k'23 [] (c_attrs) rfl rfl rfl rfl rfl ?_
 cases e3 : (x.attrs.all fun k => k.may (d - 1))
 ·exact Z
 refine Y ?_
 refine k'a [] (c_u) rfl rfl rfl rfl rfl ?_
 exact Z
theorem All_Nb_calls : AllP B 250 NbSh := All_of B (All1_mk B Tryz.func332) (k'2a B Tryz.func408) (Cont_mk B Tryz.func331) (Allc_mk B Tryz.func250)
theorem All_Nb_R : AllRP B 250 251 Nb.R Nb.sz Nb.may := All_R B (All_Nb_calls B) Nb.Rs_sh (fun x => by unfold Nb.sz; omega) (Nb_May_calls B)
theorem Nb_Marshal_calls (x : Nb) (xa : D) (d : Int) (hbig : x.sz < big) (hwf : x.wf) (hx : x.R xa) (hd1 : -9223372036854775808 ≤ d) (hd2 : d < 9223372036854775808) : k'0 (cx B) 314 [.d xa, .d (.int .i64 d)] [] (if x.may d then .tup [sT x.mar, .d .nili] else .tup [sT [], .d (Er.code 8).d]) [] := by
 have hm := Nb_May_calls B x xa d hbig hx hd1 hd2
 have hlen := Nb.mar_len x
 have hlen : x.mar.length < big := by omega
 obtain ⟨z_attrs, l_attrs, z_exs, l_exs, rfl, r_attrs, r_exs⟩ := hx
 unfold Nb.sz at hbig
 cases hc : x.may d
 ·rw [hc] at hm
  refine l_bw Tryz.func314 0 [] ?_
  refine k'2 [] (hm) rfl rfl rfl ?_
  exact Z
 rw [hc] at hm
 have hc' := hc
 unfold Nb.may at hc'
 simp only [Bool.and_eq_true, decide_eq_true_eq] at hc'
 obtain ⟨⟨⟨⟨hd, m_kn⟩, m_exs⟩, m_attrs⟩, hu⟩ := hc'
 obtain ⟨w_attrs, w_start, w_time, w_n, w_exs, w_flags⟩ := hwf
 unfold Nb.mar Nb.hb at hlen ⊢
 obtain ⟨a0, ha0, c0⟩ := k'1m B 2 x.start (by omega) (by omega) (.nw 71 2) [] k'1z (by simp only [List.length_append, List.length_nil] at hlen ⊢; omega)
 rw [List.nil_append] at c0
 obtain ⟨a1, ha1, c1⟩ := k'1m B 3 x.time (by omega) (by omega) (a0) (fxV 2 x.start) ha0 (by simp only [List.length_append, List.length_nil] at hlen ⊢; omega)
 obtain ⟨a2, ha2, c2⟩ := wr_either B (x.kind == 1) 4 x.n (by omega) (by omega) (a1) (fxV 2 x.start ++ fxV 3 x.time) ha1 (by simp only [List.length_append, List.length_nil] at hlen ⊢; omega)
 obtain ⟨a3, ha3, c3⟩ := Parts_Em_R B 5 (by omega) (by omega) z_exs d (by omega) w_exs m_exs hd hd2 r_exs (a2) (fxV 2 x.start ++ fxV 3 x.time ++ opV 4 (x.kind == 1) x.n) ha2 (by simp only [List.length_append, List.length_nil] at hlen ⊢; omega)
 obtain ⟨a4, ha4, c4⟩ := wr_either B (x.kind == 2) 6 x.n (by omega) (by omega) (a3) (fxV 2 x.start ++ fxV 3 x.time ++ opV 4 (x.kind == 1) x.n ++ psV 5 (x.exs.map Em.mar)) ha3 (by simp only [List.length_append, List.length_nil] at hlen ⊢; omega)
 obtain ⟨a5, ha5, c5⟩ := k'2n B 7 (by omega) (by omega) z_attrs d (by omega) w_attrs m_attrs hd hd2 r_attrs (a4) (fxV 2 x.start ++ fxV 3 x.time ++ opV 4 (x.kind == 1) x.n ++ psV 5 (x.exs.map Em.mar) ++ opV 6 (x.kind == 2) x.n) ha4 (by simp only [List.length_append, List.length_nil] at hlen ⊢; omega)
 obtain ⟨a6, ha6, c6⟩ := wr_var B 8 x.flags (by omega) (by omega) (by omega) (a5) (fxV 2 x.start ++ fxV 3 x.time ++ opV 4 (x.kind == 1) x.n ++ psV 5 (x.exs.map Em.mar) ++ opV 6 (x.kind == 2) x.n ++ psV 7 (Kv.mars x.attrs)) ha5 (by simp only [List.length_append, List.length_nil] at hlen ⊢; omega)
 obtain ⟨cu, cs⟩ := k'21 B (s := x.u) ha6 (l := fxV 2 x.start ++ fxV 3 x.time ++ opV 4 (x.kind == 1) x.n ++ psV 5 (x.exs.map Em.mar) ++ opV 6 (x.kind == 2) x.n ++ psV 7 (Kv.mars x.attrs) ++ vrV 8 x.flags) (by simp only [List.length_append] at hlen ⊢; omega)
 generalize fxV 2 x.start ++ fxV 3 x.time ++ opV 4 (x.kind == 1) x.n ++ psV 5 (x.exs.map Em.mar) ++ opV 6 (x.kind == 2) x.n ++ psV 7 (Kv.mars x.attrs) ++ vrV 8 x.flags = o6 at c6 cu cs ⊢
 generalize fxV 2 x.start ++ fxV 3 x.time ++ opV 4 (x.kind == 1) x.n ++ psV 5 (x.exs.map Em.mar) ++ opV 6 (x.kind == 2) x.n ++ psV 7 (Kv.mars x.attrs) = o5 at c5 c6
 generalize fxV 2 x.start ++ fxV 3 x.time ++ opV 4 (x.kind == 1) x.n ++ psV 5 (x.exs.map Em.mar) ++ opV 6 (x.kind == 2) x.n = o4 at c4 c5
 generalize fxV 2 x.start ++ fxV 3 x.time ++ opV 4 (x.kind == 1) x.n ++ psV 5 (x.exs.map Em.mar) = o3 at c3 c4
 generalize fxV 2 x.start ++ fxV 3 x.time ++ opV 4 (x.kind == 1) x.n = o2 at c2 c3
 generalize fxV 2 x.start ++ fxV 3 x.time = o1 at c1 c2
 generalize fxV 2 x.start = o0 at c0 c1
 refine l_bw Tryz.func314 0 [] ?_
 refine l_cw [] (hm) rfl rfl rfl ?_
 refine l_wr [1] (c0) k'1z ha0 ?_
 refine l_wr [1] (c1) ha0 ha1 ?_
 refine l_wr [1] (c2) ha1 ha2 ?_
 refine l_wr [1] (c3) ha2 ha3 ?_
 refine l_wr [1] (c4) ha3 ha4 ?_
 refine l_wr [1] (c5) ha4 ha5 ?_
 rw [show IntKind.u64.wrap (x.flags : Int) = (x.flags : Int) by rw [IntKind.wrap_u64]; omega]
 refine l_wr [1] (c6) ha5 ha6 ?_
 refine l_wr [1] (cu) ha6 (.inl rfl) ?_
 refine k'1f [1] (cs) rfl rfl rfl rfl rfl rfl rfl (by decide) (by simp [k'6 (.inl rfl)]) rfl rfl rfl rfl ?_
 exact Z
theorem Parts_Nb_wr : PartsP B 313 NbSh := k'33 B Tryz.func313
theorem Parts_Nb_R : k'35 B 313 314 Nb.R Nb.sz Nb.wf Nb.may Nb.mar := Parts_R B (Parts_Nb_wr B) Nb.Rs_sh (Nb_Marshal_calls B)
end
