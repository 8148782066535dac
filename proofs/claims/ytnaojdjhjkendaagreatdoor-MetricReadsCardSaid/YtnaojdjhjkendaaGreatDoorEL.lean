/- Exemplar: what they are, their bytes, what may be, what is read. -/
import Derived.Test.YtnaojdjhjkendaaGreatDoorPAB
import Derived.Test.YtnaojdjhjkendaaGreatDoorRS
set_option linter.unusedSimpArgs false
set_option linter.unusedVariables false
set_option maxRecDepth 100000
namespace Go.Proofs.YtnaojdjhjkendaaGreatDoor
open Go Go.Abs
variable (B : Fr)
section
structure Em where
 attrs : List Kv
 time : Nat
 kind : Int
 n : Nat
 span : List UInt8
 trace : List UInt8
 u : List UInt8
def noEm : Em := ⟨[], 0, 0, 0, [], [], []⟩
def Em.hb (x : Em) : List UInt8 := fxV 2 x.time ++ opV 3 (x.kind == 1) x.n ++ txV 4 x.span ++ txV 5 x.trace ++ opV 6 (x.kind == 2) x.n ++ psV 7 (Kv.mars x.attrs)
def Em.hF (x : Em) : List Fld := fxF 2 x.time ++ opF 3 (x.kind == 1) x.n ++ txF 4 x.span ++ txF 5 x.trace ++ opF 6 (x.kind == 2) x.n ++ psF 7 (Kv.mars x.attrs)
def Em.mar (x : Em) : List UInt8 := x.hb ++ x.u
def tbE (n k : Nat) : Bool := bif [2, 3, 6].contains n then k == 1 else bif [4, 5, 7].contains n then k == 2 else false
theorem tbE_calls (n k : Nat) : k'5 (cx B) 257 [iT n, iT k] [] (.d (.bool (tbE n k))) [] := by
 refine l_bw Tryz.func257 0 [] ?_
 cases h0 : ((n : Int) == 2) with
 | true =>
  have e : n = 2 := by have := eq_of_beq h0; omega
  subst e
  rw [show tbE 2 k = ((k : Int) == 1) from (ibeq k 1).symm]
  exact O
 | false =>
 have eh0 : n ≠ 2 := by have := ne_of_beq_false h0; omega
 refine Z ?_
 cases h1 : ((n : Int) == 3) with
 | true =>
  have e : n = 3 := by have := eq_of_beq h1; omega
  subst e
  rw [show tbE 3 k = ((k : Int) == 1) from (ibeq k 1).symm]
  exact O
 | false =>
 have eh1 : n ≠ 3 := by have := ne_of_beq_false h1; omega
 refine Z ?_
 cases h2 : ((n : Int) == 6) with
 | true =>
  have e : n = 6 := by have := eq_of_beq h2; omega
  subst e
  rw [show tbE 6 k = ((k : Int) == 1) from (ibeq k 1).symm]
  exact O
 | false =>
 have eh2 : n ≠ 6 := by have := ne_of_beq_false h2; omega
 refine Z ?_
 cases h3 : ((n : Int) == 4) with
 | true =>
  have e : n = 4 := by have := eq_of_beq h3; omega
  subst e
  rw [show tbE 4 k = ((k : Int) == 2) from (ibeq k 2).symm]
  exact O
 | false =>
 have eh3 : n ≠ 4 := by have := ne_of_beq_false h3; omega
 refine Z ?_
 cases h4 : ((n : Int) == 5) with
 | true =>
  have e : n = 5 := by have := eq_of_beq h4; omega
  subst e
  rw [show tbE 5 k = ((k : Int) == 2) from (ibeq k 2).symm]
  exact O
 | false =>
 have eh4 : n ≠ 5 := by have := ne_of_beq_false h4; omega
 refine Z ?_
 cases h5 : ((n : Int) == 7) with
 | true =>
  have e : n = 7 := by have := eq_of_beq h5; omega
  subst e
  rw [show tbE 7 k = ((k : Int) == 2) from (ibeq k 2).symm]
  exact O
 | false =>
 have eh5 : n ≠ 7 := by have := ne_of_beq_false h5; omega
 refine Z ?_
 rw [show tbE n k = false from by unfold tbE; simp [eh0, eh1, eh2, eh3, eh4, eh5]]
 exact k'j rfl
def Em.wf (x : Em) : Prop := (∀ k ∈ x.attrs, k.wf) ∧ x.time < 2 ^ 64 ∧ x.n < 2 ^ 64
def Em.sz (x : Em) : Nat := 300 + Kv.szs x.attrs + x.span.length + x.trace.length + x.u.length
def Em.may (x : Em) (d : Int) : Bool := decide (0 ≤ d) && mayNum x.kind x.n && (x.attrs.all fun k => k.may (d - 1)) && restB tbE x.u d
theorem Em.hb_len (x : Em) : x.mar.length + 20 ≤ x.sz := by
 have q0 := k'26 2 x.time
 have q1 := k'4b 3 (x.kind == 1) x.n
 have q2 := txV_len 4 x.span
 have q3 := txV_len 5 x.trace
 have q4 := k'4b 6 (x.kind == 2) x.n
 have q5 := Kv.marsP_len 7 x.attrs
 unfold Em.mar Em.hb Em.sz
 simp only [List.length_append]
 omega
theorem Em.mar_len (x : Em) : x.mar.length + 20 ≤ x.sz := Em.hb_len x
theorem Em.mars_lt {l : List Em} (h : (l.map Em.sz).sum < big) : ∀ s ∈ l.map Em.mar, s.length < 2 ^ 64 := fun s hs => by
 obtain ⟨k, hk, rfl⟩ := List.mem_map.1 hs
 have h1 := Em.mar_len k; have h2 := k'3b (sz := Em.sz) hk
 unfold big at h; omega
theorem Em.all {x : Em} (h1 : x.sz < big) (h2 : x.wf) (d : Int) : all x.hb d = .ok x.hF := by
 unfold Em.sz big at h1
 obtain ⟨w0, w1, w2⟩ := h2
 exact k'9 (k'9 (k'9 (k'9 (k'9 (k'3x (by omega) (by omega) d (by omega)) (all_op (by omega) (by omega) d _ (by omega))) (all_tx (by omega) (by omega) d (by omega))) (all_tx (by omega) (by omega) d (by omega))) (all_op (by omega) (by omega) d _ (by omega))) (k'4k (by omega) (by omega) d (Kv.mars_lt (by unfold big; omega)))
theorem Em.inn (x : Em) : inT tbE x.hF = true := by
 unfold Em.hF
 simp only [inT_app, Bool.and_eq_true]
 exact ⟨⟨⟨⟨⟨in_fx 2 x.time rfl, in_op 3 x.n _ rfl⟩, in_tx 4 x.span rfl⟩, in_tx 5 x.trace rfl⟩, in_op 6 x.n _ rfl⟩, in_ps 7 _ rfl⟩
def tellEm (d : Int) (l : List Fld) : Option (List UInt8 → Em) :=
 match k'7 (fun s => okK s (d - 1)) 7 l with
 | none => none
 | some attrs =>
 some fun u => ⟨attrs, (k'a l 2).n, ((k'32 3 6 (oneF [3, 6] l)).1 : Int), (k'32 3 6 (oneF [3, 6] l)).2, (k'a l 4).s, (k'a l 5).s, u⟩
def okEm (s : List UInt8) (d : Int) : Option Em := apO (okG tbE tellEm s d)
theorem Em.tell {x : Em} (hwf : x.wf) (hnum : mayNum x.kind x.n = true) (d : Int) : tellEm d x.hF = (
 match mapO (fun s => okK s (d - 1)) (Kv.mars x.attrs) with
 | none => none
 | some attrs =>
 some fun u => ⟨attrs, x.time, x.kind, x.n, x.span, x.trace, u⟩) := by
 obtain ⟨w0, w1, w2⟩ := hwf
 have sattrs : sel 7 x.hF = psF 7 (Kv.mars x.attrs) := by unfold Em.hF; simp [k'i, k'17, k'15, k'16, k'13, k'11]
 have tattrs : ∀ {α : Type} (ok : List UInt8 → Option α), k'7 ok 7 x.hF = mapO ok (Kv.mars x.attrs) := fun ok => k'2v ok sattrs
 have stime : sel 2 x.hF = fxF 2 x.time := by unfold Em.hF; simp [k'i, k'17, k'15, k'16, k'13, k'11]
 have ttime : (k'a x.hF 2).n = x.time := k'24 stime
 have skn : selN [3, 6] x.hF = opF 3 (x.kind == 1) x.n ++ opF 6 (x.kind == 2) x.n := by unfold Em.hF; simp [selN_app, selN_fx, selN_vr, selN_op, selN_tx, selN_ps]
 have tkn : k'32 3 6 (oneF [3, 6] x.hF) = (x.kind.toNat, x.n) := by rw [← oneF_selN, skn]; exact tell_num (by omega) (by omega) (by omega) hnum
 have kkn : (x.kind.toNat : Int) = x.kind := by unfold mayNum at hnum; simp at hnum; omega
 have sspan : sel 4 x.hF = txF 4 x.span := by unfold Em.hF; simp [k'i, k'17, k'15, k'16, k'13, k'11]
 have tspan : (k'a x.hF 4).s = x.span := last_tx sspan
 have strace : sel 5 x.hF = txF 5 x.trace := by unfold Em.hF; simp [k'i, k'17, k'15, k'16, k'13, k'11]
 have ttrace : (k'a x.hF 5).s = x.trace := last_tx strace
 unfold tellEm
 simp only [tattrs, ttime, tkn, kkn, tspan, ttrace]
theorem Em_told : Told okEm Em.may Em.wf Em.sz 300 := by
 intro d s x h
 obtain ⟨f, u, h1, rfl⟩ := k'2z h
 obtain ⟨l, -, h2, -, h4, hd, hf, hw⟩ := k'3e h1
 dsimp only at h2 h4 hw
 unfold tellEm at h2
 split at h2
 ·simp at h2
 rename_i attrs g_attrs
 injection h2 with h2
 subst h2
 obtain ⟨p_attrs, q_attrs, r_attrs⟩ := Kv_told.parts hf g_attrs
 obtain ⟨p_kn, q_kn⟩ := num_told (a := 3) (b := 6) hf
 have l_span := lastF_s hf 4
 have l_trace := lastF_s hf 5
 refine ⟨?_, ⟨q_attrs, k'18 hf 2, q_kn⟩, ?_⟩
 ·unfold Em.may
  simp only [Bool.and_eq_true]
  exact ⟨⟨⟨decide_eq_true hd, p_kn⟩, p_attrs⟩, h4⟩
 ·unfold Em.sz
  simp only [Kv.szs_sum]
  omega
def Em.eq (x y : Em) : Bool := Kv.eqs x.attrs y.attrs && x.time == y.time && x.kind == y.kind && x.n == y.n && x.span == y.span && x.trace == y.trace && x.u == y.u
def Em.eqs : List Em → List Em → Bool
 | [], [] => true
 | v :: l, w :: r => v.eq w && Em.eqs l r
 | [], _ :: _ => false
 | _ :: _, [] => false
theorem Em.eq_self (x : Em) : x.eq x = true := by unfold Em.eq; simp [Kv.eqs_self]
theorem Em.eqs_self : ∀ l : List Em, Em.eqs l l = true
 | [] => rfl
 | v :: l => by unfold Em.eqs; simp [Em.eq_self v, Em.eqs_self l]
theorem Em.eqs_by (a b : List Em) : Em.eqs a b = (a.length == b.length && (List.range a.length).all (byI Em.eq a b)) :=
 k'4d Em.eq Em.eqs rfl (fun _ _ _ _ => rfl) (fun _ _ => rfl) (fun _ _ => rfl) a b
end
section
def Em.d (x : Em) : D := .agg [slD (Kv.ds x.attrs), .int .u64 x.time, .int .i64 x.kind, .int .u64 x.n, .str x.span, .str x.trace, .str x.u]
def Em.R (x : Em) (a : D) : Prop := ∃ (z_attrs : Bool) (l_attrs : List D), a = .agg [.sl z_attrs l_attrs, .int .u64 x.time, .int .i64 x.kind, .int .u64 x.n, .str x.span, .str x.trace, .str x.u] ∧ Kv.Rs x.attrs l_attrs
def EmSh (x : D) : Prop := ∃ (a0 : Bool) (a1 : List D) (a2 : Nat) (a3 : Int) (a4 : Nat) (a5 : List UInt8) (a6 : List UInt8) (a7 : List UInt8), x = .agg [.sl a0 a1, .int .u64 a2, .int .i64 a3, .int .u64 a4, .str a5, .str a6, .str a7]
theorem Em.R_sh {x : Em} {a : D} (h : x.R a) : EmSh a := by
 obtain ⟨z_attrs, l_attrs, h, -⟩ := h
 exact ⟨_, _, _, _, _, _, _, _, h⟩
theorem Em.d_R (x : Em) : x.R x.d := ⟨_, _, rfl, Kv.ds_R _⟩
theorem Em.Rs_sh {l : List Em} {xs : List D} (h : RsOf Em.R l xs) : ∀ x ∈ xs, EmSh x := fun x hx => by
 obtain ⟨v, -, r⟩ := h.mem hx
 exact Em.R_sh r
theorem Em.R_no : noEm.R noEm.d := Em.d_R _
theorem Em_fits (l : List Em) : ∀ a ∈ l.map Em.d, a.fits 7 = true := by
 intro a ha
 obtain ⟨c, -, rfl⟩ := List.mem_map.1 ha
 rfl
theorem part_Em_calls : partP B 256 Em.d := k'3d B Tryz.func256
theorem List_Em_calls : ListP B 168 Em.d := List_S B (fun x => Em_fits [x]) (part_Em_calls B) (List_mk B Tryz.func168)
theorem k'3z : ListT B 168 Em.d := k'27 B (List_Em_calls B)
theorem okEm_rd (s : List UInt8) (d : Int) : okEm s d = (match k't s d, k'7 (fun s => okK s (d - 1)) 7 (knB tbE s d) with
 | none, some attrs => some ⟨attrs, (k'a (knB tbE s d) 2).n, ((k'32 3 6 (oneF [3, 6] (knB tbE s d))).1 : Int), (k'32 3 6 (oneF [3, 6] (knB tbE s d))).2, (k'a (knB tbE s d) 4).s, (k'a (knB tbE s d) 5).s, unB tbE s d⟩
 | _, _ => none) := by
 unfold okEm
 rw [okG_rd]
 cases k't s d with
 | some e => rfl
 | none =>
  unfold tellEm
  simp only
  cases k'7 (fun s => okK s (d - 1)) 7 (knB tbE s d) with
  | none => rfl
  | some attrs =>
   rfl
theorem Em_read (hB : BOk B) (s : List UInt8) (d : Int) (hl : s.length < big) (hd1 : -9223372036854775808 ≤ d) (hd2 : d < 9223372036854775808) :
  RdZ B 169 Em.d noEm (okEm s d) s d ∧ (∀ e0, k't s d = some e0 → k'5 (cx B) 169 [sT s, .d (.int .i64 d)] [] (.tup [.d noEm.d, .d e0.d]) []) := by
 have h1 := k'1h B hB 257 tbE (tbE_calls B) s d hl hd1 hd2
 have hk : LOk (knB tbE s d) := k'x tbE s d hl
 have hm := k'2w hk
 obtain ⟨vs_attrs, e1, c_attrs, t1⟩ := k'1e B hB (fun s => okK s (d - 1)) Kv.sh noKV 27 [] (k't s d) (unB tbE s d) d s.length (knB tbE s d) 7 hk (fun h => by have := k'25 h; omega) hd2 (fun x hx hn => k'1i B hB x.s (d - 1) (lok_s hk hx) (by have := k'2j hx; omega) (by omega))
 have hein : ∀ x, e1 = some x → EIn s.length x := t1.ein (fun x hx => k'1a hx)
 have main : k'5 (cx B) 169 [sT s, .d (.int .i64 d)] [] (.tup [.d (orD e1 (.agg [slD (vs_attrs.map KVs.d), .int .u64 (k'a (knB tbE s d) 2).n, .int .i64 ((k'32 3 6 (oneF [3, 6] (knB tbE s d))).1 : Nat), .int .u64 ((k'32 3 6 (oneF [3, 6] (knB tbE s d))).2 : Nat), .str (k'a (knB tbE s d) 4).s, .str (k'a (knB tbE s d) 5).s, .str (unB tbE s d)]) noEm.d), .d (eD e1)]) [] := by
  clear hein t1
  refine l_bw Tryz.func169 0 [] ?_
  refine l_cw [] (h1) rfl rfl rfl ?_
  refine k'43 (i0 := 13) (z := 14) (t0 := 7) rfl (by decide) rfl rfl rfl rfl rfl rfl rfl rfl rfl rfl ?_
  refine Z ?_
  refine x_cw [1] (k'e B (k't s d) (unB tbE s d) d s.length (knB tbE s d) 2 hm) rfl rfl rfl ?_
  refine x_cw [1] (rBytes0_calls B (k't s d) (unB tbE s d) d s.length (knB tbE s d) 4 hm) rfl rfl rfl ?_
  refine x_cw [1] (rBytes0_calls B (k't s d) (unB tbE s d) d s.length (knB tbE s d) 5 hm) rfl rfl rfl ?_
  refine x_cw [1] (c_attrs) rfl rfl rfl ?_
  refine l_cw [1] (rNumber_calls B e1 (unB tbE s d) d s.length (knB tbE s d) 3 6 hk) rfl rfl rfl ?_
  cases e1 with
  | none =>
   exact O
  | some er =>
   cases er <;> (
   exact O)
 constructor
 ·rw [okEm_rd]
  cases e1 with
  | none =>
   obtain ⟨k0, a_attrs, g_attrs, v_attrs⟩ := t1.ok
   rw [k0, g_attrs]
   subst v_attrs
   rw [ks_map a_attrs] at main
   exact main
  | some er =>
   have hno : (match k't s d, k'7 (fun s => okK s (d - 1)) 7 (knB tbE s d) with
    | none, some attrs => some (⟨attrs, (k'a (knB tbE s d) 2).n, ((k'32 3 6 (oneF [3, 6] (knB tbE s d))).1 : Int), (k'32 3 6 (oneF [3, 6] (knB tbE s d))).2, (k'a (knB tbE s d) 4).s, (k'a (knB tbE s d) 5).s, unB tbE s d⟩ : Em)
    | _, _ => none) = none := by
    cases hr : k't s d with
    | some x => rfl
    | none =>
     rw [hr] at t1
     cases hp0 : k'7 (fun s => okK s (d - 1)) 7 (knB tbE s d) with
     | none => rfl
     | some a0 =>
      rw [hp0] at t1
      have := t1.get.2; simp at this
   rw [hno]
   exact ⟨er, hein er rfl, main⟩
 ·intro e0 he
  rw [he] at t1
  have k1 := t1.keep
  subst k1
  exact main
end
section
theorem refEm_calls (x y : Em) (xa ya : D) (hbig : x.sz < big) (hx : x.R xa) (hy : y.R ya) : k'5 (cx B) 201 [.d xa, .d ya] [] (.d (.bool (x.eq y))) [] := by
 obtain ⟨z_attrs, l_attrs, rfl, r_attrs⟩ := hx
 obtain ⟨y_attrs, m_attrs, rfl, s_attrs⟩ := hy
 unfold Em.sz at hbig
 have c_attrs := k'1s B (a := x.attrs) (b := y.attrs) z_attrs y_attrs (by omega) r_attrs s_attrs
 rw [show x.eq y = ((Kv.eqs x.attrs y.attrs) && (x.time == y.time) && (x.kind == y.kind) && (x.n == y.n) && (x.span == y.span) && (x.trace == y.trace) && (x.u == y.u)) by unfold Em.eq; ac_rfl]
 refine l_bw Tryz.func201 0 [] ?_
 refine l_cw [] (c_attrs) rfl rfl rfl ?_
 cases e0 : (Kv.eqs x.attrs y.attrs)
 ·exact O
 refine Z ?_
 rw [ibeq x.time y.time]
 cases e1 : (x.time == y.time)
 ·exact O
 refine Z ?_
 cases e2 : (x.kind == y.kind)
 ·exact O
 refine Z ?_
 rw [ibeq x.n y.n]
 cases e3 : (x.n == y.n)
 ·exact O
 refine Z ?_
 cases e4 : (x.span == y.span)
 ·exact O
 refine Z ?_
 cases e5 : (x.trace == y.trace)
 ·exact O
 exact O
theorem refEm_L (z w : Bool) (xs ys : List D) (r : Nat → Bool) (hl : xs.length < 9223372036854775807) (hx : ∀ x ∈ xs, EmSh x) (hy : ∀ x ∈ ys, EmSh x)
  (hf : ∀ (i : Nat) x y, xs[i]? = some x → ys[i]? = some y → k'5 (cx B) 201 [.d x, .d y] [] (.d (.bool (r i))) []) :
  k'5 (cx B) 106 [.d (.sl z xs), .d (.sl w ys)] [] (.d (.bool (xs.length == ys.length && (List.range xs.length).all r))) [] := by
 refine l_bw Tryz.func106 0 [] ?_
 rw [nbeq]
 cases hlen : (xs.length == ys.length)
 ·exact O
 have hlen := eq_of_beq hlen
 refine Z ?_
 refine k'y (fun i : Nat => xs.length - i) (fun i => [(0, .d (.sl z xs)), (1, .d (.sl w ys)), (5, iT i)]) (fun _ => []) (fun i => i ≤ xs.length ∧ (List.range i).all r = true) 0 ⟨by omega, rfl⟩ ⟨rfl, rfl, rfl, trivial⟩ rfl 0 rfl (fun _ => rfl) (fun _ => rfl) (fun _ => rfl) ?_
 rintro i ⟨i1, i2⟩
 refine Z ?_
 refine k'1q rfl (fun hd => ?_) (fun hd => ?_)
 ·have hlt : i < xs.length := by have := of_decide_eq_true hd; omega
  obtain ⟨x, hxi⟩ : ∃ x, xs[i]? = some x := ⟨_, List.getElem?_eq_getElem hlt⟩
  obtain ⟨y, hyi⟩ : ∃ y, ys[i]? = some y := ⟨_, List.getElem?_eq_getElem (by omega)⟩
  have hc := hf i x y hxi hyi
  obtain ⟨a0, a1, a2, a3, a4, a5, a6, a7, rfl⟩ := hx x (List.mem_of_getElem? hxi)
  obtain ⟨b0, b1, b2, b3, b4, b5, b6, b7, rfl⟩ := hy y (List.mem_of_getElem? hyi)
  have hin : (List.range xs.length).all r = true → r i = true := fun h => List.all_eq_true.1 h i (List.mem_range.2 hlt)
  refine Z ?_
  refine k'35 (.indexAddr (k := .i64) (n := i) (es := xs) rfl rfl rfl rfl (.inl ⟨_, rfl⟩) rfl (by omega) (by simpa using hxi) rfl (by decide)) rfl rfl rfl ?_
  refine Z ?_
  refine k'35 (.indexAddr (k := .i64) (n := i) (es := ys) rfl rfl rfl rfl (.inl ⟨_, rfl⟩) rfl (by omega) (by simpa using hyi) rfl (by decide)) rfl rfl rfl ?_
  refine Z ?_
  refine x_cw [] (hc) rfl rfl rfl ?_
  cases hr : r i
  ·rw [show (List.range xs.length).all r = false by cases hh : (List.range xs.length).all r with | false => rfl | true => rw [hin hh] at hr; simp at hr]
   exact O
  refine Z ?_
  rw [wS i (by omega)]
  exact ⟨i + 1, by omega, ⟨by omega, by rw [List.range_succ, List.all_append, i2]; simp [hr]⟩, ⟨rfl, rfl, rfl, trivial⟩, rfl, k'g rfl⟩
 ·have hge : i = xs.length := by have := of_decide_eq_false hd; omega
  subst hge
  rw [i2]
  exact O
theorem k'4g {a b : List Em} {xs ys : List D} (z w : Bool) (hb : (a.map Em.sz).sum < big) (h1 : RsOf Em.R a xs) (h2 : RsOf Em.R b ys) : k'5 (cx B) 106 [.d (.sl z xs), .d (.sl w ys)] [] (.d (.bool (Em.eqs a b))) [] := by
 have hla := sum_ge (sz := Em.sz) (fun x => by unfold Em.sz; omega) a
 have h := refEm_L B z w xs ys (byI Em.eq a b) (by rw [h1.1]; unfold big at hb; omega) (Em.Rs_sh h1) (Em.Rs_sh h2) (fun i x y hx hy => by
  obtain ⟨v, hv, r1⟩ := h1.at hx
  obtain ⟨u, hu, r2⟩ := h2.at hy
  have hm := k'3b (sz := Em.sz) (List.mem_of_getElem? hv)
  have e : byI Em.eq a b i = v.eq u := by unfold byI; rw [hv, hu]
  rw [e]
  exact refEm_calls B v u x y (by omega) r1 r2)
 rw [h1.1, h2.1, ← Em.eqs_by] at h
 exact h
end
section
def Em.setU (x : Em) (u : List UInt8) : Em := { x with u := u }
variable {s w t : List UInt8} {d : Int} {x y : Em}
end
