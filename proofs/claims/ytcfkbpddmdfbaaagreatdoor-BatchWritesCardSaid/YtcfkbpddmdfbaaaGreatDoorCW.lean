/- Summary: alike, may they be, written, read. -/
import Derived.Test.YtcfkbpddmdfbaaaGreatDoorSP
import Derived.Test.YtcfkbpddmdfbaaaGreatDoorNW
import Derived.Test.YtcfkbpddmdfbaaaGreatDoorSD
import Derived.Test.YtcfkbpddmdfbaaaGreatDoorQW
set_option linter.unusedSimpArgs false
set_option linter.unusedVariables false
set_option maxRecDepth 100000
namespace Go.Proofs.YtcfkbpddmdfbaaaGreatDoor
open Go Go.Abs
variable (B : Fr)
section
def Su.d (x : Su) : D := .agg [slD (Kv.ds x.attrs), .int .u64 x.start, .int .u64 x.time, .int .u64 x.count, .int .u64 x.sum, slD (x.qs.map Qu.d), .int .u32 x.flags, .str x.u]
def Su.R (x : Su) (a : D) : Prop := ∃ (z_attrs : Bool) (l_attrs : List D) (z_qs : Bool) (l_qs : List D), a = .agg [.sl z_attrs l_attrs, .int .u64 x.start, .int .u64 x.time, .int .u64 x.count, .int .u64 x.sum, .sl z_qs l_qs, .int .u32 x.flags, .str x.u] ∧ Kv.Rs x.attrs l_attrs ∧ RsOf Qu.R x.qs l_qs
def SuSh (x : D) : Prop := ∃ (a0 : Bool) (a1 : List D) (a2 : Nat) (a3 : Nat) (a4 : Nat) (a5 : Nat) (a6 : Bool) (a7 : List D) (a8 : Nat) (a9 : List UInt8), x = .agg [.sl a0 a1, .int .u64 a2, .int .u64 a3, .int .u64 a4, .int .u64 a5, .sl a6 a7, .int .u32 a8, .str a9]
theorem Su.R_sh {x : Su} {a : D} (h : x.R a) : SuSh a := by
 obtain ⟨z_attrs, l_attrs, z_qs, l_qs, h, -⟩ := h
 exact ⟨_, _, _, _, _, _, _, _, _, _, h⟩
theorem Su.d_R (x : Su) : x.R x.d := ⟨_, _, _, _, rfl, Kv.ds_R _, RsOf.map Qu.d_R _⟩
theorem Su.Rs_sh {l : List Su} {xs : List D} (h : RsOf Su.R l xs) : ∀ x ∈ xs, SuSh x := fun x hx => by
 obtain ⟨v, -, r⟩ := h.mem hx
 exact Su.R_sh r
theorem Su_May_calls (x : Su) (xa : D) (d : Int) (hbig : x.sz < big) (hx : x.R xa) (hd1 : -9223372036854775808 ≤ d) (hd2 : d < 9223372036854775808) : k'0 (cx B) 257 [.d xa, .d (.int .i64 d)] [] (.d (.bool (x.may d))) [] := by
 obtain ⟨z_attrs, l_attrs, z_qs, l_qs, rfl, r_attrs, r_qs⟩ := hx
 unfold Su.sz at hbig
 unfold Su.may
 by_cases hd0 : 0 ≤ d
 rotate_left
 ·rw [show decide (0 ≤ d) = false from decide_eq_false hd0]
  refine l_bw Tryz.func257 0 [] ?_
  rw [show decide (d ≥ 0) = false from decide_eq_false hd0]
  exact Z
 have c_u := k'o B 349 tbS (tbS_calls B) x.u d (by omega) (by omega) hd2
 have c_qs := All_Qu_R B z_qs d (by omega) hd0 hd2 r_qs
 have c_attrs := k'1d B (a := x.attrs) z_attrs (d - 1) (by omega) (by omega) (by omega) r_attrs
 refine l_bw Tryz.func257 0 [] ?_
 rw [show decide (d ≥ 0) = decide (0 ≤ d) from rfl]
 cases e0 : (decide (0 ≤ d))
 ·exact Z
 refine Y ?_
 refine k'23 [] (c_qs) rfl rfl rfl rfl rfl ?_
 cases e1 : (x.qs.all fun k => k.may (d - 1))
 ·exact Z
 refine Y ?_
 rw [k'5 1 (by omega) (by omega) (by omega) hd2]
 refine k'23 [] (c_attrs) rfl rfl rfl rfl rfl ?_
 cases e2 : (x.attrs.all fun k => k.may (d - 1))
 ·exact Z
 refine Y ?_
 refine k'a [] (c_u) rfl rfl rfl rfl rfl ?_
 exact Z
theorem All_Su_calls : AllP B 256 SuSh := All_of B (All1_mk B Tryz.func346) (k'2a B Tryz.func417) (Cont_mk B Tryz.func345) (Allc_mk B Tryz.func256)
theorem All_Su_R : AllRP B 256 257 Su.R Su.sz Su.may := All_R B (All_Su_calls B) Su.Rs_sh (fun x => by unfold Su.sz; omega) (Su_May_calls B)
theorem Su_Marshal_calls (x : Su) (xa : D) (d : Int) (hbig : x.sz < big) (hwf : x.wf) (hx : x.R xa) (hd1 : -9223372036854775808 ≤ d) (hd2 : d < 9223372036854775808) : k'0 (cx B) 320 [.d xa, .d (.int .i64 d)] [] (if x.may d then .tup [sT x.mar, .d .nili] else .tup [sT [], .d (Er.code 8).d]) [] := by
 have hm := Su_May_calls B x xa d hbig hx hd1 hd2
 have hlen := Su.mar_len x
 have hlen : x.mar.length < big := by omega
 obtain ⟨z_attrs, l_attrs, z_qs, l_qs, rfl, r_attrs, r_qs⟩ := hx
 unfold Su.sz at hbig
 cases hc : x.may d
 ·rw [hc] at hm
  refine l_bw Tryz.func320 0 [] ?_
  refine k'2 [] (hm) rfl rfl rfl ?_
  exact Z
 rw [hc] at hm
 have hc' := hc
 unfold Su.may at hc'
 simp only [Bool.and_eq_true, decide_eq_true_eq] at hc'
 obtain ⟨⟨⟨hd, m_qs⟩, m_attrs⟩, hu⟩ := hc'
 obtain ⟨w_attrs, w_start, w_time, w_count, w_sum, w_qs, w_flags⟩ := hwf
 unfold Su.mar Su.hb at hlen ⊢
 obtain ⟨a0, ha0, c0⟩ := k'1m B 2 x.start (by omega) (by omega) (.nw 71 2) [] k'1z (by simp only [List.length_append, List.length_nil] at hlen ⊢; omega)
 rw [List.nil_append] at c0
 obtain ⟨a1, ha1, c1⟩ := k'1m B 3 x.time (by omega) (by omega) (a0) (fxV 2 x.start) ha0 (by simp only [List.length_append, List.length_nil] at hlen ⊢; omega)
 obtain ⟨a2, ha2, c2⟩ := k'1m B 4 x.count (by omega) (by omega) (a1) (fxV 2 x.start ++ fxV 3 x.time) ha1 (by simp only [List.length_append, List.length_nil] at hlen ⊢; omega)
 obtain ⟨a3, ha3, c3⟩ := k'1m B 5 x.sum (by omega) (by omega) (a2) (fxV 2 x.start ++ fxV 3 x.time ++ fxV 4 x.count) ha2 (by simp only [List.length_append, List.length_nil] at hlen ⊢; omega)
 obtain ⟨a4, ha4, c4⟩ := Parts_Qu_R B 6 (by omega) (by omega) z_qs d (by omega) w_qs m_qs hd hd2 r_qs (a3) (fxV 2 x.start ++ fxV 3 x.time ++ fxV 4 x.count ++ fxV 5 x.sum) ha3 (by simp only [List.length_append, List.length_nil] at hlen ⊢; omega)
 obtain ⟨a5, ha5, c5⟩ := k'2n B 7 (by omega) (by omega) z_attrs d (by omega) w_attrs m_attrs hd hd2 r_attrs (a4) (fxV 2 x.start ++ fxV 3 x.time ++ fxV 4 x.count ++ fxV 5 x.sum ++ psV 6 (x.qs.map Qu.mar)) ha4 (by simp only [List.length_append, List.length_nil] at hlen ⊢; omega)
 obtain ⟨a6, ha6, c6⟩ := wr_var B 8 x.flags (by omega) (by omega) (by omega) (a5) (fxV 2 x.start ++ fxV 3 x.time ++ fxV 4 x.count ++ fxV 5 x.sum ++ psV 6 (x.qs.map Qu.mar) ++ psV 7 (Kv.mars x.attrs)) ha5 (by simp only [List.length_append, List.length_nil] at hlen ⊢; omega)
 obtain ⟨cu, cs⟩ := k'21 B (s := x.u) ha6 (l := fxV 2 x.start ++ fxV 3 x.time ++ fxV 4 x.count ++ fxV 5 x.sum ++ psV 6 (x.qs.map Qu.mar) ++ psV 7 (Kv.mars x.attrs) ++ vrV 8 x.flags) (by simp only [List.length_append] at hlen ⊢; omega)
 generalize fxV 2 x.start ++ fxV 3 x.time ++ fxV 4 x.count ++ fxV 5 x.sum ++ psV 6 (x.qs.map Qu.mar) ++ psV 7 (Kv.mars x.attrs) ++ vrV 8 x.flags = o6 at c6 cu cs ⊢
 generalize fxV 2 x.start ++ fxV 3 x.time ++ fxV 4 x.count ++ fxV 5 x.sum ++ psV 6 (x.qs.map Qu.mar) ++ psV 7 (Kv.mars x.attrs) = o5 at c5 c6
 generalize fxV 2 x.start ++ fxV 3 x.time ++ fxV 4 x.count ++ fxV 5 x.sum ++ psV 6 (x.qs.map Qu.mar) = o4 at c4 c5
 generalize fxV 2 x.start ++ fxV 3 x.time ++ fxV 4 x.count ++ fxV 5 x.sum = o3 at c3 c4
 generalize fxV 2 x.start ++ fxV 3 x.time ++ fxV 4 x.count = o2 at c2 c3
 generalize fxV 2 x.start ++ fxV 3 x.time = o1 at c1 c2
 generalize fxV 2 x.start = o0 at c0 c1
 refine l_bw Tryz.func320 0 [] ?_
 refine l_cw [] (hm) rfl rfl rfl ?_
 refine l_wr [1] (c0) k'1z ha0 ?_
 refine l_wr [1] (c1) ha0 ha1 ?_
 refine l_wr [1] (c2) ha1 ha2 ?_
 refine l_wr [1] (c3) ha2 ha3 ?_
 refine l_wr [1] (c4) ha3 ha4 ?_
 refine l_wr [1] (c5) ha4 ha5 ?_
 rw [show IntKind.u64.wrap (x.flags : Int) = (x.flags : Int) by rw [IntKind.wrap_u64]; omega]
 refine l_wr [1] (c6) ha5 ha6 ?_
 refine l_wr [1] (cu) ha6 (.inl rfl) ?_
 refine k'1f [1] (cs) rfl rfl rfl rfl rfl rfl rfl (by decide) (by simp [k'6 (.inl rfl)]) rfl rfl rfl rfl ?_
 exact Z
theorem Parts_Su_wr : PartsP B 319 SuSh := k'33 B Tryz.func319
theorem Parts_Su_R : k'35 B 319 320 Su.R Su.sz Su.wf Su.may Su.mar := Parts_R B (Parts_Su_wr B) Su.Rs_sh (Su_Marshal_calls B)
end
section
structure In where
 nbs : List Nb
 his : List Hi
 ehs : List Eh
 sus : List Su
 temp : Int
 mono : Bool
 u : List UInt8
def noIn : In := ⟨[], [], [], [], 0, false, []⟩
def k'45 (t : Int) : Nat := (if t < 0 then t + 18446744073709551616 else t).toNat
def temp32 (n : Nat) : Int := if n % 4294967296 < 2147483648 then ((n % 4294967296 : Nat) : Int) else ((n % 4294967296 : Nat) : Int) - 4294967296
theorem tempN_lt {t : Int} (h1 : -2147483648 ≤ t) (h2 : t < 2147483648) : k'45 t < 2 ^ 64 := by unfold k'45; split <;> omega
def numK (k : Int) : Nat := if k = 1 then 5 else if k = 2 then 7 else if k = 3 then 9 else if k = 4 then 10 else if k = 5 then 11 else 0
def kindK (n : Nat) : Int := if n = 5 then 1 else if n = 7 then 2 else if n = 9 then 3 else if n = 10 then 4 else if n = 11 then 5 else 0
def tbI (k : Int) (n kd : Nat) : Bool := bif n == 1 then kd == 2 else bif n == 2 then kd == 0 && (decide (2 ≤ k) && decide (k ≤ 4)) else bif n == 3 then kd == 0 && k == 2 else false
def In.hb (x : In) : List UInt8 := psV 1 (x.nbs.map Nb.mar) ++ psV 1 (x.his.map Hi.mar) ++ psV 1 (x.ehs.map Eh.mar) ++ psV 1 (x.sus.map Su.mar) ++ vrV 2 (k'45 x.temp) ++ flV 3 x.mono
def In.hF (x : In) : List Fld := psF 1 (x.nbs.map Nb.mar) ++ psF 1 (x.his.map Hi.mar) ++ psF 1 (x.ehs.map Eh.mar) ++ psF 1 (x.sus.map Su.mar) ++ vrF 2 (k'45 x.temp) ++ flF 3 x.mono
def In.mar (x : In) : List UInt8 := x.hb ++ x.u
def In.wf (x : In) : Prop := (∀ k ∈ x.nbs, k.wf) ∧ (∀ k ∈ x.his, k.wf) ∧ (∀ k ∈ x.ehs, k.wf) ∧ (∀ k ∈ x.sus, k.wf) ∧ (-2147483648 ≤ x.temp ∧ x.temp < 2147483648)
def In.sz (x : In) : Nat := 300 + (x.nbs.map Nb.sz).sum + (x.his.map Hi.sz).sum + (x.ehs.map Eh.sz).sum + (x.sus.map Su.sz).sum + x.u.length
def bareI (k : Int) (x : In) : Bool := (k == 1 || k == 2 || x.nbs.isEmpty) && (k == 3 || x.his.isEmpty) && (k == 4 || x.ehs.isEmpty) && (k == 5 || x.sus.isEmpty) && (decide (2 ≤ k) && decide (k ≤ 4) || x.temp == 0) && (k == 2 || !x.mono)
def In.pts (x : In) (d : Int) : Bool := (x.nbs.all fun y => y.may d) && (x.his.all fun y => y.may d) && (x.ehs.all fun y => y.may d) && (x.sus.all fun y => y.may d)
def mayI (k : Int) (x : In) (d : Int) : Bool := decide (0 ≤ d) && x.pts (d - 1) && k'1a (tbI k) x.u d
def In.isNo (x : In) : Bool := x.u == []
def mayOn (k : Int) (x : In) (d : Int) : Bool := decide (0 ≤ k) && decide (k ≤ 5) && bareI k x && (if k = 0 then x.isNo else mayI k x d)
theorem flV_len (n : Nat) (b : Bool) : (flV n b).length ≤ 20 := by
 unfold flV; split
 ·exact fewV_len n 1
 ·simp
theorem In.mar_len (x : In) : x.mar.length + 20 ≤ x.sz := by
 have q0 := k'1v 1 x.nbs fun y _ => Nb.mar_len y
 have q1 := k'1v 1 x.his fun y _ => Hi.mar_len y
 have q2 := k'1v 1 x.ehs fun y _ => Eh.mar_len y
 have q3 := k'1v 1 x.sus fun y _ => Su.mar_len y
 have q4 := k'3d 2 (k'45 x.temp)
 have q5 := flV_len 3 x.mono
 unfold In.mar In.hb In.sz
 simp only [List.length_append]
 omega
theorem In.all {x : In} (h1 : x.sz < big) (h2 : x.wf) (d : Int) : all x.hb d = .ok x.hF := by
 unfold In.sz big at h1
 obtain ⟨w0, w1, w2, w3, w4⟩ := h2
 exact k'4 (k'4 (k'4 (k'4 (k'4 (k'40 (by omega) (by omega) d (Nb.mars_lt (by unfold big; omega))) (k'40 (by omega) (by omega) d (Hi.mars_lt (by unfold big; omega)))) (k'40 (by omega) (by omega) d (Eh.mars_lt (by unfold big; omega)))) (k'40 (by omega) (by omega) d (Su.mars_lt (by unfold big; omega)))) (all_vr (by omega) (by omega) d (tempN_lt w4.1 w4.2))) (all_fl (by omega) (by omega) d _)
def ptsI (k : Int) (d : Int) (l : List Fld) : Option In :=
 if k = 1 ∨ k = 2 then (match k'1o (fun s => okNb s (d - 1)) 1 l with | none => none | some v => some ⟨v, [], [], [], 0, false, []⟩)
 else if k = 3 then (match k'1o (fun s => okHi s (d - 1)) 1 l with | none => none | some v => some ⟨[], v, [], [], 0, false, []⟩)
 else if k = 4 then (match k'1o (fun s => okEh s (d - 1)) 1 l with | none => none | some v => some ⟨[], [], v, [], 0, false, []⟩)
 else (match k'1o (fun s => okSu s (d - 1)) 1 l with | none => none | some v => some ⟨[], [], [], v, 0, false, []⟩)
def tellI (k : Int) (d : Int) (l : List Fld) : Option (List UInt8 → In) :=
 match ptsI k d l with
 | none => none
 | some p => some fun u => ⟨p.nbs, p.his, p.ehs, p.sus, temp32 (k'19 l 2).n, decide (0 < (k'19 l 3).n), u⟩
def okI (k : Int) (s : List UInt8) (d : Int) : Option In := apO (okG (tbI k) (tellI k) s d)
def In.eq (x y : In) : Bool := Nb.eqs x.nbs y.nbs && Hi.eqs x.his y.his && Eh.eqs x.ehs y.ehs && Su.eqs x.sus y.sus && x.temp == y.temp && x.mono == y.mono && x.u == y.u
theorem In.eq_self (x : In) : x.eq x = true := by unfold In.eq; simp [Nb.eqs_self, Hi.eqs_self, Eh.eqs_self, Su.eqs_self]
/-! The one that counts of a metric's kinds. -/
def onNs : List Nat := [5, 7, 9, 10, 11]
def onOk (k : Int) : Prop := 1 ≤ k ∧ k ≤ 5
instance (k : Int) : Decidable (onOk k) := inferInstanceAs (Decidable (1 ≤ k ∧ k ≤ 5))
def onV (k : Int) (x : In) : List UInt8 := if onOk k then paV (numK k) x.mar else []
def onF (k : Int) (x : In) : List Fld := if onOk k then [paR (numK k) x.mar] else []
theorem numK_ok {k : Int} (h : onOk k) : onNs.contains (numK k) = true ∧ kindK (numK k) = k ∧ 1 ≤ numK k ∧ numK k ≤ 536870911 ∧ numK k ≠ 1 ∧ numK k ≠ 2 ∧ numK k ≠ 3 ∧ numK k ≠ 12 := by
 have hk : k = 1 ∨ k = 2 ∨ k = 3 ∨ k = 4 ∨ k = 5 := by unfold onOk at h; omega
 rcases hk with rfl | rfl | rfl | rfl | rfl <;> decide
def onO (d : Int) (l : List Fld) : Option (Int × In) :=
 if (oneF onNs l).num = 0 then some (0, noIn) else (match okI (kindK (oneF onNs l).num) (oneF onNs l).all.flatten (d - 1) with | none => none | some x => some (kindK (oneF onNs l).num, x))
def onS (k : Int) (x : In) (d : Int) : Option (Int × In) := onO d (onF k x)
theorem onV_len (k : Int) (x : In) : (onV k x).length ≤ x.sz := by
 have := x.mar_len
 unfold onV
 split
 ·have := k'2b (numK k) x.mar; omega
 ·simp
theorem onO_sel (d : Int) {l : List Fld} {k : Int} {x : In} (h : selN onNs l = onF k x) : onO d l = onS k x d := by
 have e : oneF onNs l = oneF onNs (onF k x) := by rw [← oneF_selN onNs l, h]
 unfold onS onO
 rw [e]
theorem selN_on (k : Int) (x : In) : selN onNs (onF k x) = onF k x := by
 unfold onF
 split
 ·rename_i h
  exact selN_of (n := numK k) (by simp [paR]) onNs |>.trans (by rw [(numK_ok h).1]; rfl)
 ·rfl
theorem k'48 (m : Nat) (k : Int) (x : In) (hm : onNs.contains m = false) : sel m (onF k x) = [] := by
 unfold onF
 split
 ·rename_i h
  have : numK k ≠ m := fun e => by have := (numK_ok h).1; rw [e, hm] at this; simp at this
  rw [sel_of (n := numK k) (by simp [paR]) m, if_neg this]
 ·rfl
theorem all_on (k : Int) (x : In) (d : Int) (hb : x.sz < big) : all (onV k x) d = .ok (onF k x) := by
 unfold onV onF
 have := x.mar_len
 unfold big at hb
 split
 ·rename_i h
  obtain ⟨-, -, h1, h2, -⟩ := numK_ok h
  exact all_pa h1 h2 d (by omega)
 ·exact all_nil d
/-! Texts. -/
theorem text_of {n : Nat} {s : List UInt8} {l : List Fld} (h : sel n l = txF n s) (ht : txt s = true) : textO n l = some s := by
 unfold textO
 rw [h, last_tx h]
 unfold txF
 split
 ·rfl
 ·simp [paR, ht]
end
section
structure Sc where
 name : List UInt8
 version : List UInt8
 attrs : List Kv
 dropped : Nat
 u : List UInt8
def noSc : Sc := ⟨[], [], [], 0, []⟩
def Sc.hb (x : Sc) : List UInt8 := txV 1 x.name ++ txV 2 x.version ++ psV 3 (Kv.mars x.attrs) ++ vrV 4 x.dropped
def Sc.hF (x : Sc) : List Fld := txF 1 x.name ++ txF 2 x.version ++ psF 3 (Kv.mars x.attrs) ++ vrF 4 x.dropped
def Sc.mar (x : Sc) : List UInt8 := x.hb ++ x.u
def tbC (n k : Nat) : Bool := bif [1, 2, 3].contains n then k == 2 else bif [4].contains n then k == 0 else false
theorem tbC_calls (n k : Nat) : k'0 (cx B) 191 [iT n, iT k] [] (.d (.bool (tbC n k))) [] := by
 refine l_bw Tryz.func191 0 [] ?_
 cases h0 : ((n : Int) == 1) with
 | true =>
  have e : n = 1 := by have := eq_of_beq h0; omega
  subst e
  rw [show tbC 1 k = ((k : Int) == 2) from (ibeq k 2).symm]
  exact Z
 | false =>
 have eh0 : n ≠ 1 := by have := ne_of_beq_false h0; omega
 refine Y ?_
 cases h1 : ((n : Int) == 2) with
 | true =>
  have e : n = 2 := by have := eq_of_beq h1; omega
  subst e
  rw [show tbC 2 k = ((k : Int) == 2) from (ibeq k 2).symm]
  exact Z
 | false =>
 have eh1 : n ≠ 2 := by have := ne_of_beq_false h1; omega
 refine Y ?_
 cases h2 : ((n : Int) == 3) with
 | true =>
  have e : n = 3 := by have := eq_of_beq h2; omega
  subst e
  rw [show tbC 3 k = ((k : Int) == 2) from (ibeq k 2).symm]
  exact Z
 | false =>
 have eh2 : n ≠ 3 := by have := ne_of_beq_false h2; omega
 refine Y ?_
 cases h3 : ((n : Int) == 4) with
 | true =>
  have e : n = 4 := by have := eq_of_beq h3; omega
  subst e
  rw [show tbC 4 k = ((k : Int) == 0) from (ibeq k 0).symm]
  exact Z
 | false =>
 have eh3 : n ≠ 4 := by have := ne_of_beq_false h3; omega
 refine Y ?_
 rw [show tbC n k = false from by unfold tbC; simp [eh0, eh1, eh2, eh3]]
 exact k'i rfl
def Sc.wf (x : Sc) : Prop := (∀ k ∈ x.attrs, k.wf) ∧ x.dropped < 4294967296
def Sc.sz (x : Sc) : Nat := 300 + x.name.length + x.version.length + Kv.szs x.attrs + x.u.length
def Sc.may (x : Sc) (d : Int) : Bool := decide (0 ≤ d) && txt x.name && txt x.version && (x.attrs.all fun k => k.may (d - 1)) && k'1a tbC x.u d
theorem Sc.hb_len (x : Sc) : x.mar.length + 20 ≤ x.sz := by
 have q0 := k'3m 1 x.name
 have q1 := k'3m 2 x.version
 have q2 := Kv.marsP_len 3 x.attrs
 have q3 := k'3d 4 x.dropped
 unfold Sc.mar Sc.hb Sc.sz
 simp only [List.length_append]
 omega
theorem Sc.mar_len (x : Sc) : x.mar.length + 20 ≤ x.sz := Sc.hb_len x
theorem Sc.mars_lt {l : List Sc} (h : (l.map Sc.sz).sum < big) : ∀ s ∈ l.map Sc.mar, s.length < 2 ^ 64 := fun s hs => by
 obtain ⟨k, hk, rfl⟩ := List.mem_map.1 hs
 have h1 := Sc.mar_len k; have h2 := k'x (sz := Sc.sz) hk
 unfold big at h; omega
theorem Sc.all {x : Sc} (h1 : x.sz < big) (h2 : x.wf) (d : Int) : all x.hb d = .ok x.hF := by
 unfold Sc.sz big at h1
 obtain ⟨w0, w1⟩ := h2
 exact k'4 (k'4 (k'4 (all_tx (by omega) (by omega) d (by omega)) (all_tx (by omega) (by omega) d (by omega))) (k'40 (by omega) (by omega) d (Kv.mars_lt (by unfold big; omega)))) (all_vr (by omega) (by omega) d (by omega))
def tellSc (d : Int) (l : List Fld) : Option (List UInt8 → Sc) :=
 match textO 1 l with
 | none => none
 | some name =>
 match textO 2 l with
 | none => none
 | some version =>
 match k'1o (fun s => okK s (d - 1)) 3 l with
 | none => none
 | some attrs =>
 some fun u => ⟨name, version, attrs, (k'19 l 4).n % 4294967296, u⟩
theorem Sc.tell {x : Sc} (hwf : x.wf) (h_name : txt x.name = true) (h_version : txt x.version = true) (d : Int) : tellSc d x.hF = (
 match mapO (fun s => okK s (d - 1)) (Kv.mars x.attrs) with
 | none => none
 | some attrs =>
 some fun u => ⟨x.name, x.version, attrs, x.dropped, u⟩) := by
 obtain ⟨w0, w1⟩ := hwf
 have sname : sel 1 x.hF = txF 1 x.name := by unfold Sc.hF; simp [k'b, k'u, k's, k't, k'q, k'p]
 have tname : textO 1 x.hF = some x.name := text_of sname h_name
 have sversion : sel 2 x.hF = txF 2 x.version := by unfold Sc.hF; simp [k'b, k'u, k's, k't, k'q, k'p]
 have tversion : textO 2 x.hF = some x.version := text_of sversion h_version
 have sattrs : sel 3 x.hF = psF 3 (Kv.mars x.attrs) := by unfold Sc.hF; simp [k'b, k'u, k's, k't, k'q, k'p]
 have tattrs : ∀ {α : Type} (ok : List UInt8 → Option α), k'1o ok 3 x.hF = mapO ok (Kv.mars x.attrs) := fun ok => k'2g ok sattrs
 have sdropped : sel 4 x.hF = vrF 4 x.dropped := by unfold Sc.hF; simp [k'b, k'u, k's, k't, k'q, k'p]
 have tdropped : (k'19 x.hF 4).n % 4294967296 = x.dropped := by rw [last_vr sdropped]; omega
 unfold tellSc
 simp only [tname, tversion, tattrs, tdropped]
def Sc.eq (x y : Sc) : Bool := x.name == y.name && x.version == y.version && Kv.eqs x.attrs y.attrs && x.dropped == y.dropped && x.u == y.u
def Sc.eqs : List Sc → List Sc → Bool
 | [], [] => true
 | v :: l, w :: r => v.eq w && Sc.eqs l r
 | [], _ :: _ => false
 | _ :: _, [] => false
theorem Sc.eq_self (x : Sc) : x.eq x = true := by unfold Sc.eq; simp [Kv.eqs_self]
theorem Sc.eqs_self : ∀ l : List Sc, Sc.eqs l l = true
 | [] => rfl
 | v :: l => by unfold Sc.eqs; simp [Sc.eq_self v, Sc.eqs_self l]
theorem Sc.eqs_by (a b : List Sc) : Sc.eqs a b = (a.length == b.length && (List.range a.length).all (byI Sc.eq a b)) :=
 k'3i Sc.eq Sc.eqs rfl (fun _ _ _ _ => rfl) (fun _ _ => rfl) (fun _ _ => rfl) a b
end
section
def Sc.d (x : Sc) : D := .agg [.str x.name, .str x.version, slD (Kv.ds x.attrs), .int .u32 x.dropped, .str x.u]
def Sc.R (x : Sc) (a : D) : Prop := ∃ (z_attrs : Bool) (l_attrs : List D), a = .agg [.str x.name, .str x.version, .sl z_attrs l_attrs, .int .u32 x.dropped, .str x.u] ∧ Kv.Rs x.attrs l_attrs
def ScSh (x : D) : Prop := ∃ (a0 : List UInt8) (a1 : List UInt8) (a2 : Bool) (a3 : List D) (a4 : Nat) (a5 : List UInt8), x = .agg [.str a0, .str a1, .sl a2 a3, .int .u32 a4, .str a5]
theorem Sc.R_sh {x : Sc} {a : D} (h : x.R a) : ScSh a := by
 obtain ⟨z_attrs, l_attrs, h, -⟩ := h
 exact ⟨_, _, _, _, _, _, h⟩
theorem Sc.d_R (x : Sc) : x.R x.d := ⟨_, _, rfl, Kv.ds_R _⟩
theorem Sc.Rs_sh {l : List Sc} {xs : List D} (h : RsOf Sc.R l xs) : ∀ x ∈ xs, ScSh x := fun x hx => by
 obtain ⟨v, -, r⟩ := h.mem hx
 exact Sc.R_sh r
theorem Sc_Same_calls (x y : Sc) (xa ya : D) (hbig : x.sz < big) (hx : x.R xa) (hy : y.R ya) : k'0 (cx B) 143 [.d xa, .d ya] [] (.d (.bool (x.eq y))) [] := by
 obtain ⟨z_attrs, l_attrs, rfl, r_attrs⟩ := hx
 obtain ⟨y_attrs, m_attrs, rfl, s_attrs⟩ := hy
 unfold Sc.sz at hbig
 have c_attrs := SameKeys_calls B (a := x.attrs) (b := y.attrs) z_attrs y_attrs (by omega) r_attrs s_attrs
 rw [show x.eq y = ((x.name == y.name) && (x.version == y.version) && (x.dropped == y.dropped) && (x.u == y.u) && (Kv.eqs x.attrs y.attrs)) by unfold Sc.eq; ac_rfl]
 refine l_bw Tryz.func143 0 [] ?_
 cases e0 : (x.name == y.name)
 ·exact Z
 refine Y ?_
 cases e1 : (x.version == y.version)
 ·exact Z
 refine Y ?_
 rw [ibeq x.dropped y.dropped]
 cases e2 : (x.dropped == y.dropped)
 ·exact Z
 refine Y ?_
 cases e3 : (x.u == y.u)
 ·exact Z
 refine Y ?_
 refine k'a [] (c_attrs) rfl rfl rfl rfl rfl ?_
 exact Z
theorem Sc_May_calls (x : Sc) (xa : D) (d : Int) (hbig : x.sz < big) (hx : x.R xa) (hd1 : -9223372036854775808 ≤ d) (hd2 : d < 9223372036854775808) : k'0 (cx B) 144 [.d xa, .d (.int .i64 d)] [] (.d (.bool (x.may d))) [] := by
 obtain ⟨z_attrs, l_attrs, rfl, r_attrs⟩ := hx
 unfold Sc.sz at hbig
 unfold Sc.may
 by_cases hd0 : 0 ≤ d
 rotate_left
 ·rw [show decide (0 ≤ d) = false from decide_eq_false hd0]
  refine l_bw Tryz.func144 0 [] ?_
  rw [show decide (d ≥ 0) = false from decide_eq_false hd0]
  exact Z
 have c_u := k'o B 191 tbC (tbC_calls B) x.u d (by omega) (by omega) hd2
 have c_name := k'1g B x.name (by omega)
 have c_version := k'1g B x.version (by omega)
 have c_attrs := k'1d B (a := x.attrs) z_attrs (d - 1) (by omega) (by omega) (by omega) r_attrs
 refine l_bw Tryz.func144 0 [] ?_
 rw [show decide (d ≥ 0) = decide (0 ≤ d) from rfl]
 cases e0 : (decide (0 ≤ d))
 ·exact Z
 refine Y ?_
 refine k'23 [] (c_name) rfl rfl rfl rfl rfl ?_
 cases e1 : (txt x.name)
 ·exact Z
 refine Y ?_
 refine k'23 [] (c_version) rfl rfl rfl rfl rfl ?_
 cases e2 : (txt x.version)
 ·exact Z
 refine Y ?_
 rw [k'5 1 (by omega) (by omega) (by omega) hd2]
 refine k'23 [] (c_attrs) rfl rfl rfl rfl rfl ?_
 cases e3 : (x.attrs.all fun k => k.may (d - 1))
 ·exact Z
 refine Y ?_
 refine k'a [] (c_u) rfl rfl rfl rfl rfl ?_
 exact Z
theorem Sc_Marshal_calls (x : Sc) (xa : D) (d : Int) (hbig : x.sz < big) (hwf : x.wf) (hx : x.R xa) (hd1 : -9223372036854775808 ≤ d) (hd2 : d < 9223372036854775808) : k'0 (cx B) 181 [.d xa, .d (.int .i64 d)] [] (if x.may d then .tup [sT x.mar, .d .nili] else .tup [sT [], .d (Er.code 8).d]) [] := by
 have hm := Sc_May_calls B x xa d hbig hx hd1 hd2
 have hlen := Sc.mar_len x
 have hlen : x.mar.length < big := by omega
 obtain ⟨z_attrs, l_attrs, rfl, r_attrs⟩ := hx
 unfold Sc.sz at hbig
 cases hc : x.may d
 ·rw [hc] at hm
  refine l_bw Tryz.func181 0 [] ?_
  refine k'2 [] (hm) rfl rfl rfl ?_
  exact Z
 rw [hc] at hm
 have hc' := hc
 unfold Sc.may at hc'
 simp only [Bool.and_eq_true, decide_eq_true_eq] at hc'
 obtain ⟨⟨⟨⟨hd, m_name⟩, m_version⟩, m_attrs⟩, hu⟩ := hc'
 obtain ⟨w_attrs, w_dropped⟩ := hwf
 unfold Sc.mar Sc.hb at hlen ⊢
 obtain ⟨a0, ha0, c0⟩ := k'24 B 1 x.name (by omega) (by omega) (.nw 71 2) [] k'1z (by simp only [List.length_append, List.length_nil] at hlen ⊢; omega)
 rw [List.nil_append] at c0
 obtain ⟨a1, ha1, c1⟩ := k'24 B 2 x.version (by omega) (by omega) (a0) (txV 1 x.name) ha0 (by simp only [List.length_append, List.length_nil] at hlen ⊢; omega)
 obtain ⟨a2, ha2, c2⟩ := k'2n B 3 (by omega) (by omega) z_attrs d (by omega) w_attrs m_attrs hd hd2 r_attrs (a1) (txV 1 x.name ++ txV 2 x.version) ha1 (by simp only [List.length_append, List.length_nil] at hlen ⊢; omega)
 obtain ⟨a3, ha3, c3⟩ := wr_var B 4 x.dropped (by omega) (by omega) (by omega) (a2) (txV 1 x.name ++ txV 2 x.version ++ psV 3 (Kv.mars x.attrs)) ha2 (by simp only [List.length_append, List.length_nil] at hlen ⊢; omega)
 obtain ⟨cu, cs⟩ := k'21 B (s := x.u) ha3 (l := txV 1 x.name ++ txV 2 x.version ++ psV 3 (Kv.mars x.attrs) ++ vrV 4 x.dropped) (by simp only [List.length_append] at hlen ⊢; omega)
 generalize txV 1 x.name ++ txV 2 x.version ++ psV 3 (Kv.mars x.attrs) ++ vrV 4 x.dropped = o3 at c3 cu cs ⊢
 generalize txV 1 x.name ++ txV 2 x.version ++ psV 3 (Kv.mars x.attrs) = o2 at c2 c3
 generalize txV 1 x.name ++ txV 2 x.version = o1 at c1 c2
 generalize txV 1 x.name = o0 at c0 c1
 refine l_bw Tryz.func181 0 [] ?_
 refine l_cw [] (hm) rfl rfl rfl ?_
 refine l_wr [1] (c0) k'1z ha0 ?_
 refine l_wr [1] (c1) ha0 ha1 ?_
 refine l_wr [1] (c2) ha1 ha2 ?_
 rw [show IntKind.u64.wrap (x.dropped : Int) = (x.dropped : Int) by rw [IntKind.wrap_u64]; omega]
 refine l_wr [1] (c3) ha2 ha3 ?_
 refine l_wr [1] (cu) ha3 (.inl rfl) ?_
 refine k'1f [1] (cs) rfl rfl rfl rfl rfl rfl rfl (by decide) (by simp [k'6 (.inl rfl)]) rfl rfl rfl rfl ?_
 exact Z
end
