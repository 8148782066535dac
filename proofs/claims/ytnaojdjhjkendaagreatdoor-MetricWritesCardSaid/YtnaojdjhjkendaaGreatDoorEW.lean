/- Exemplar: what they are, their bytes, what may be, what is read. -/
import Derived.Test.YtnaojdjhjkendaaGreatDoorPAB
set_option linter.unusedSimpArgs false
set_option linter.unusedVariables false
set_option maxRecDepth 100000
namespace Go.Proofs.YtnaojdjhjkendaaGreatDoor
open Go Go.Abs
variable (B : Fr)
section
structure Em where
 attrs : List Kv
 time : Nat
 kind : Int
 n : Nat
 span : List UInt8
 trace : List UInt8
 u : List UInt8
def Em.hb (x : Em) : List UInt8 := fxV 2 x.time ++ opV 3 (x.kind == 1) x.n ++ txV 4 x.span ++ txV 5 x.trace ++ opV 6 (x.kind == 2) x.n ++ psV 7 (Kv.mars x.attrs)
def Em.hF (x : Em) : List Fld := fxF 2 x.time ++ opF 3 (x.kind == 1) x.n ++ txF 4 x.span ++ txF 5 x.trace ++ opF 6 (x.kind == 2) x.n ++ psF 7 (Kv.mars x.attrs)
def Em.mar (x : Em) : List UInt8 := x.hb ++ x.u
def tbE (n k : Nat) : Bool := bif [2, 3, 6].contains n then k == 1 else bif [4, 5, 7].contains n then k == 2 else false
theorem tbE_calls (n k : Nat) : k'0 (cx B) 257 [iT n, iT k] [] (.d (.bool (tbE n k))) [] := by
 refine l_bw Tryz.func257 0 [] ?_
 cases h0 : ((n : Int) == 2) with
 | true =>
  have e : n = 2 := by have := eq_of_beq h0; omega
  subst e
  rw [show tbE 2 k = ((k : Int) == 1) from (ibeq k 1).symm]
  exact Z
 | false =>
 have eh0 : n ≠ 2 := by have := ne_of_beq_false h0; omega
 refine Y ?_
 cases h1 : ((n : Int) == 3) with
 | true =>
  have e : n = 3 := by have := eq_of_beq h1; omega
  subst e
  rw [show tbE 3 k = ((k : Int) == 1) from (ibeq k 1).symm]
  exact Z
 | false =>
 have eh1 : n ≠ 3 := by have := ne_of_beq_false h1; omega
 refine Y ?_
 cases h2 : ((n : Int) == 6) with
 | true =>
  have e : n = 6 := by have := eq_of_beq h2; omega
  subst e
  rw [show tbE 6 k = ((k : Int) == 1) from (ibeq k 1).symm]
  exact Z
 | false =>
 have eh2 : n ≠ 6 := by have := ne_of_beq_false h2; omega
 refine Y ?_
 cases h3 : ((n : Int) == 4) with
 | true =>
  have e : n = 4 := by have := eq_of_beq h3; omega
  subst e
  rw [show tbE 4 k = ((k : Int) == 2) from (ibeq k 2).symm]
  exact Z
 | false =>
 have eh3 : n ≠ 4 := by have := ne_of_beq_false h3; omega
 refine Y ?_
 cases h4 : ((n : Int) == 5) with
 | true =>
  have e : n = 5 := by have := eq_of_beq h4; omega
  subst e
  rw [show tbE 5 k = ((k : Int) == 2) from (ibeq k 2).symm]
  exact Z
 | false =>
 have eh4 : n ≠ 5 := by have := ne_of_beq_false h4; omega
 refine Y ?_
 cases h5 : ((n : Int) == 7) with
 | true =>
  have e : n = 7 := by have := eq_of_beq h5; omega
  subst e
  rw [show tbE 7 k = ((k : Int) == 2) from (ibeq k 2).symm]
  exact Z
 | false =>
 have eh5 : n ≠ 7 := by have := ne_of_beq_false h5; omega
 refine Y ?_
 rw [show tbE n k = false from by unfold tbE; simp [eh0, eh1, eh2, eh3, eh4, eh5]]
 exact k'f rfl
def Em.wf (x : Em) : Prop := (∀ k ∈ x.attrs, k.wf) ∧ x.time < 2 ^ 64 ∧ x.n < 2 ^ 64
def Em.sz (x : Em) : Nat := 300 + Kv.szs x.attrs + x.span.length + x.trace.length + x.u.length
def Em.may (x : Em) (d : Int) : Bool := decide (0 ≤ d) && mayNum x.kind x.n && (x.attrs.all fun k => k.may (d - 1)) && k'1v tbE x.u d
theorem Em.hb_len (x : Em) : x.mar.length + 20 ≤ x.sz := by
 have q0 := k'23 2 x.time
 have q1 := k'3z 3 (x.kind == 1) x.n
 have q2 := txV_len 4 x.span
 have q3 := txV_len 5 x.trace
 have q4 := k'3z 6 (x.kind == 2) x.n
 have q5 := Kv.marsP_len 7 x.attrs
 unfold Em.mar Em.hb Em.sz
 simp only [List.length_append]
 omega
theorem Em.mar_len (x : Em) : x.mar.length + 20 ≤ x.sz := Em.hb_len x
theorem Em.mars_lt {l : List Em} (h : (l.map Em.sz).sum < big) : ∀ s ∈ l.map Em.mar, s.length < 2 ^ 64 := fun s hs => by
 obtain ⟨k, hk, rfl⟩ := List.mem_map.1 hs
 have h1 := Em.mar_len k; have h2 := k'18 (sz := Em.sz) hk
 unfold big at h; omega
theorem Em.all {x : Em} (h1 : x.sz < big) (h2 : x.wf) (d : Int) : all x.hb d = .ok x.hF := by
 unfold Em.sz big at h1
 obtain ⟨w0, w1, w2⟩ := h2
 exact k'3 (k'3 (k'3 (k'3 (k'3 (k'3r (by omega) (by omega) d (by omega)) (all_op (by omega) (by omega) d _ (by omega))) (all_tx (by omega) (by omega) d (by omega))) (all_tx (by omega) (by omega) d (by omega))) (all_op (by omega) (by omega) d _ (by omega))) (k'4a (by omega) (by omega) d (Kv.mars_lt (by unfold big; omega)))
def tellEm (d : Int) (l : List Fld) : Option (List UInt8 → Em) :=
 match k'1q (fun s => okK s (d - 1)) 7 l with
 | none => none
 | some attrs =>
 some fun u => ⟨attrs, (k'z l 2).n, ((numKN 3 6 (oneF [3, 6] l)).1 : Int), (numKN 3 6 (oneF [3, 6] l)).2, (k'z l 4).s, (k'z l 5).s, u⟩
def okEm (s : List UInt8) (d : Int) : Option Em := apO (okG tbE tellEm s d)
theorem Em.tell {x : Em} (hwf : x.wf) (hnum : mayNum x.kind x.n = true) (d : Int) : tellEm d x.hF = (
 match mapO (fun s => okK s (d - 1)) (Kv.mars x.attrs) with
 | none => none
 | some attrs =>
 some fun u => ⟨attrs, x.time, x.kind, x.n, x.span, x.trace, u⟩) := by
 obtain ⟨w0, w1, w2⟩ := hwf
 have sattrs : sel 7 x.hF = psF 7 (Kv.mars x.attrs) := by unfold Em.hF; simp [k'9, k's, k'q, k'r, k'p, k'n]
 have tattrs : ∀ {α : Type} (ok : List UInt8 → Option α), k'1q ok 7 x.hF = mapO ok (Kv.mars x.attrs) := fun ok => k'2v ok sattrs
 have stime : sel 2 x.hF = fxF 2 x.time := by unfold Em.hF; simp [k'9, k's, k'q, k'r, k'p, k'n]
 have ttime : (k'z x.hF 2).n = x.time := k'21 stime
 have skn : selN [3, 6] x.hF = opF 3 (x.kind == 1) x.n ++ opF 6 (x.kind == 2) x.n := by unfold Em.hF; simp [selN_app, selN_fx, selN_vr, selN_op, selN_tx, selN_ps]
 have tkn : numKN 3 6 (oneF [3, 6] x.hF) = (x.kind.toNat, x.n) := by rw [← oneF_selN, skn]; exact tell_num (by omega) (by omega) (by omega) hnum
 have kkn : (x.kind.toNat : Int) = x.kind := by unfold mayNum at hnum; simp at hnum; omega
 have sspan : sel 4 x.hF = txF 4 x.span := by unfold Em.hF; simp [k'9, k's, k'q, k'r, k'p, k'n]
 have tspan : (k'z x.hF 4).s = x.span := last_tx sspan
 have strace : sel 5 x.hF = txF 5 x.trace := by unfold Em.hF; simp [k'9, k's, k'q, k'r, k'p, k'n]
 have ttrace : (k'z x.hF 5).s = x.trace := last_tx strace
 unfold tellEm
 simp only [tattrs, ttime, tkn, kkn, tspan, ttrace]
theorem Em.far (x : Em) (d e : Int) (he : (x.sz : Int) ≤ e) (h : x.may d = true) : x.may e = true := by
 unfold Em.may at h ⊢
 unfold Em.sz at he
 simp only [Bool.and_eq_true, decide_eq_true_eq] at h ⊢
 obtain ⟨⟨⟨hd, m_kn⟩, m_attrs⟩, hu⟩ := h
 exact ⟨⟨⟨by omega, m_kn⟩, by rw [← Kv.mays_all] at m_attrs ⊢; exact Kv.fars x.attrs _ _ (by omega) m_attrs⟩, k'2j (by omega) hu⟩
def Em.eq (x y : Em) : Bool := Kv.eqs x.attrs y.attrs && x.time == y.time && x.kind == y.kind && x.n == y.n && x.span == y.span && x.trace == y.trace && x.u == y.u
def Em.eqs : List Em → List Em → Bool
 | [], [] => true
 | v :: l, w :: r => v.eq w && Em.eqs l r
 | [], _ :: _ => false
 | _ :: _, [] => false
theorem Em.eqs_by (a b : List Em) : Em.eqs a b = (a.length == b.length && (List.range a.length).all (byI Em.eq a b)) :=
 k'40 Em.eq Em.eqs rfl (fun _ _ _ _ => rfl) (fun _ _ => rfl) (fun _ _ => rfl) a b
end
section
def Em.d (x : Em) : D := .agg [slD (Kv.ds x.attrs), .int .u64 x.time, .int .i64 x.kind, .int .u64 x.n, .str x.span, .str x.trace, .str x.u]
def Em.R (x : Em) (a : D) : Prop := ∃ (z_attrs : Bool) (l_attrs : List D), a = .agg [.sl z_attrs l_attrs, .int .u64 x.time, .int .i64 x.kind, .int .u64 x.n, .str x.span, .str x.trace, .str x.u] ∧ Kv.Rs x.attrs l_attrs
def EmSh (x : D) : Prop := ∃ (a0 : Bool) (a1 : List D) (a2 : Nat) (a3 : Int) (a4 : Nat) (a5 : List UInt8) (a6 : List UInt8) (a7 : List UInt8), x = .agg [.sl a0 a1, .int .u64 a2, .int .i64 a3, .int .u64 a4, .str a5, .str a6, .str a7]
theorem Em.R_sh {x : Em} {a : D} (h : x.R a) : EmSh a := by
 obtain ⟨z_attrs, l_attrs, h, -⟩ := h
 exact ⟨_, _, _, _, _, _, _, _, h⟩
theorem Em.Rs_sh {l : List Em} {xs : List D} (h : RsOf Em.R l xs) : ∀ x ∈ xs, EmSh x := fun x hx => by
 obtain ⟨v, -, r⟩ := h.mem hx
 exact Em.R_sh r
theorem Em_May_calls (x : Em) (xa : D) (d : Int) (hbig : x.sz < big) (hx : x.R xa) (hd1 : -9223372036854775808 ≤ d) (hd2 : d < 9223372036854775808) : k'0 (cx B) 227 [.d xa, .d (.int .i64 d)] [] (.d (.bool (x.may d))) [] := by
 obtain ⟨z_attrs, l_attrs, rfl, r_attrs⟩ := hx
 unfold Em.sz at hbig
 unfold Em.may
 by_cases hd0 : 0 ≤ d
 rotate_left
 ·rw [show decide (0 ≤ d) = false from decide_eq_false hd0]
  refine l_bw Tryz.func227 0 [] ?_
  rw [show decide (d ≥ 0) = false from decide_eq_false hd0]
  exact Z
 have c_u := k'1e B 257 tbE (tbE_calls B) x.u d (by omega) (by omega) hd2
 have c_kn := k'42 B x.kind x.n
 have c_attrs := k'1p B (a := x.attrs) z_attrs (d - 1) (by omega) (by omega) (by omega) r_attrs
 refine l_bw Tryz.func227 0 [] ?_
 rw [show decide (d ≥ 0) = decide (0 ≤ d) from rfl]
 cases e0 : (decide (0 ≤ d))
 ·exact Z
 refine Y ?_
 refine k'2d [] (c_kn) rfl rfl rfl rfl rfl ?_
 cases e1 : (mayNum x.kind x.n)
 ·exact Z
 refine Y ?_
 rw [k'4 1 (by omega) (by omega) (by omega) hd2]
 refine k'2d [] (c_attrs) rfl rfl rfl rfl rfl ?_
 cases e2 : (x.attrs.all fun k => k.may (d - 1))
 ·exact Z
 refine Y ?_
 refine k'7 [] (c_u) rfl rfl rfl rfl rfl ?_
 exact Z
theorem All_Em_calls : AllP B 226 EmSh := All_of B (All1_mk B Tryz.func292) (k'39 B Tryz.func321) (Cont_mk B Tryz.func291) (Allc_mk B Tryz.func226)
theorem All_Em_R : AllRP B 226 227 Em.R Em.sz Em.may := All_R B (All_Em_calls B) Em.Rs_sh (fun x => by unfold Em.sz; omega) (Em_May_calls B)
theorem Em_Marshal_calls (x : Em) (xa : D) (d : Int) (hbig : x.sz < big) (hwf : x.wf) (hx : x.R xa) (hd1 : -9223372036854775808 ≤ d) (hd2 : d < 9223372036854775808) : k'0 (cx B) 211 [.d xa, .d (.int .i64 d)] [] (if x.may d then .tup [sT x.mar, .d .nili] else .tup [sT [], .d (Er.code 8).d]) [] := by
 have hm := Em_May_calls B x xa d hbig hx hd1 hd2
 have hlen := Em.mar_len x
 have hlen : x.mar.length < big := by omega
 obtain ⟨z_attrs, l_attrs, rfl, r_attrs⟩ := hx
 unfold Em.sz at hbig
 cases hc : x.may d
 ·rw [hc] at hm
  refine l_bw Tryz.func211 0 [] ?_
  refine k'2 [] (hm) rfl rfl rfl ?_
  exact Z
 rw [hc] at hm
 have hc' := hc
 unfold Em.may at hc'
 simp only [Bool.and_eq_true, decide_eq_true_eq] at hc'
 obtain ⟨⟨⟨hd, m_kn⟩, m_attrs⟩, hu⟩ := hc'
 obtain ⟨w_attrs, w_time, w_n⟩ := hwf
 unfold Em.mar Em.hb at hlen ⊢
 obtain ⟨a0, ha0, c0⟩ := k'1b B 2 x.time (by omega) (by omega) (.nw 122 2) [] k'31 (by simp only [List.length_append, List.length_nil] at hlen ⊢; omega)
 rw [List.nil_append] at c0
 obtain ⟨a1, ha1, c1⟩ := wr_either B (x.kind == 1) 3 x.n (by omega) (by omega) (a0) (fxV 2 x.time) ha0 (by simp only [List.length_append, List.length_nil] at hlen ⊢; omega)
 obtain ⟨a2, ha2, c2⟩ := k'3g B 4 x.span (by omega) (by omega) (a1) (fxV 2 x.time ++ opV 3 (x.kind == 1) x.n) ha1 (by simp only [List.length_append, List.length_nil] at hlen ⊢; omega)
 obtain ⟨a3, ha3, c3⟩ := k'3g B 5 x.trace (by omega) (by omega) (a2) (fxV 2 x.time ++ opV 3 (x.kind == 1) x.n ++ txV 4 x.span) ha2 (by simp only [List.length_append, List.length_nil] at hlen ⊢; omega)
 obtain ⟨a4, ha4, c4⟩ := wr_either B (x.kind == 2) 6 x.n (by omega) (by omega) (a3) (fxV 2 x.time ++ opV 3 (x.kind == 1) x.n ++ txV 4 x.span ++ txV 5 x.trace) ha3 (by simp only [List.length_append, List.length_nil] at hlen ⊢; omega)
 obtain ⟨a5, ha5, c5⟩ := k'38 B 7 (by omega) (by omega) z_attrs d (by omega) w_attrs m_attrs hd hd2 r_attrs (a4) (fxV 2 x.time ++ opV 3 (x.kind == 1) x.n ++ txV 4 x.span ++ txV 5 x.trace ++ opV 6 (x.kind == 2) x.n) ha4 (by simp only [List.length_append, List.length_nil] at hlen ⊢; omega)
 obtain ⟨cu, cs⟩ := k'2x B (s := x.u) ha5 (l := fxV 2 x.time ++ opV 3 (x.kind == 1) x.n ++ txV 4 x.span ++ txV 5 x.trace ++ opV 6 (x.kind == 2) x.n ++ psV 7 (Kv.mars x.attrs)) (by simp only [List.length_append] at hlen ⊢; omega)
 generalize fxV 2 x.time ++ opV 3 (x.kind == 1) x.n ++ txV 4 x.span ++ txV 5 x.trace ++ opV 6 (x.kind == 2) x.n ++ psV 7 (Kv.mars x.attrs) = o5 at c5 cu cs ⊢
 generalize fxV 2 x.time ++ opV 3 (x.kind == 1) x.n ++ txV 4 x.span ++ txV 5 x.trace ++ opV 6 (x.kind == 2) x.n = o4 at c4 c5
 generalize fxV 2 x.time ++ opV 3 (x.kind == 1) x.n ++ txV 4 x.span ++ txV 5 x.trace = o3 at c3 c4
 generalize fxV 2 x.time ++ opV 3 (x.kind == 1) x.n ++ txV 4 x.span = o2 at c2 c3
 generalize fxV 2 x.time ++ opV 3 (x.kind == 1) x.n = o1 at c1 c2
 generalize fxV 2 x.time = o0 at c0 c1
 refine l_bw Tryz.func211 0 [] ?_
 refine l_cw [] (hm) rfl rfl rfl ?_
 refine l_wr [1] (c0) k'31 ha0 ?_
 refine l_wr [1] (c1) ha0 ha1 ?_
 refine l_wr [1] (c2) ha1 ha2 ?_
 refine l_wr [1] (c3) ha2 ha3 ?_
 refine l_wr [1] (c4) ha3 ha4 ?_
 refine l_wr [1] (c5) ha4 ha5 ?_
 refine l_wr [1] (cu) ha5 (.inl rfl) ?_
 refine k'1r [1] (cs) rfl rfl rfl rfl rfl rfl rfl (by decide) (by simp [k'5 (.inl rfl)]) rfl rfl rfl rfl ?_
 exact Z
theorem Parts_Em_wr : PartsP B 210 EmSh := k'4b B Tryz.func210
theorem Parts_Em_R : PartsRP B 210 211 Em.R Em.sz Em.wf Em.may Em.mar := Parts_R B (Parts_Em_wr B) Em.Rs_sh (Em_Marshal_calls B)
end
