/- Metrics: read, with more behind; read, and called so. -/
import Derived.Test.YtidcjbkenpgnoaaGreatDoorMU
import Derived.Test.YtidcjbkenpgnoaaGreatDoorBW
set_option linter.unusedSimpArgs false
set_option linter.unusedVariables false
set_option maxRecDepth 100000
namespace Go.Proofs.YtidcjbkenpgnoaaGreatDoor
open Go Go.Abs
variable (B : Fr)
section
def Me.setU (x : Me) (u : List UInt8) : Me := { x with u := u }
variable {s w t : List UInt8} {d : Int} {x y : Me}
end
section
def Bt.d (x : Bt) : D := .agg [slD (x.rs.map Rm.d), .str x.u]
def Bt.R (x : Bt) (a : D) : Prop := ∃ (z : Bool) (l : List D), a = .agg [.sl z l, .str x.u] ∧ RsOf Rm.R x.rs l
theorem Bt.d_R (x : Bt) : x.R x.d := ⟨_, _, rfl, RsOf.map Rm.d_R _⟩
def noBt : Bt := ⟨[], []⟩
def tooB (s : List UInt8) : Prop := s.length > 262144
instance (s : List UInt8) : Decidable (tooB s) := inferInstanceAs (Decidable (s.length > 262144))
theorem bound_calls (s : List UInt8) : k'0 (cx B) 36 [sT s] [] (.d (if tooB s then (Er.code 7).d else .nili)) [] := by
 by_cases h : tooB s
 ·rw [if_pos h]
  unfold tooB at h
  refine l_bw Tryz.func36 0 [] ?_
  rw [show decide ((s.length : Int) > 262144) = true from decide_eq_true (by omega)]
  exact Z
 ·rw [if_neg h]
  unfold tooB at h
  refine l_bw Tryz.func36 0 [] ?_
  rw [show decide ((s.length : Int) > 262144) = false from decide_eq_false (by omega)]
  exact Z
theorem EqL_Rm_R : EqRP B 73 74 Rm.R rmM.sz (eqsL rmM.eq) := EqF_R B (EqF_Rm_calls B) Rm.R_sh Rm.sz1 (eqsL_by rmM.eq) (Rm_Same_calls B)
theorem Bt_Same_calls (x y : Bt) (xa ya : D) (hbig : x.sz < big) (hx : x.R xa) (hy : y.R ya) : k'0 (cx B) 33 [.d xa, .d ya] [] (.d (.bool (x.eq y))) [] := by
 obtain ⟨z, l, rfl, r_rs⟩ := hx
 obtain ⟨w, m, rfl, s_rs⟩ := hy
 unfold Bt.sz at hbig
 have c_rs := EqL_Rm_R B z w (by omega) r_rs s_rs
 unfold Bt.eq
 generalize eqsL rmM.eq x.rs y.rs = eq at *
 refine l_bw Tryz.func33 0 [] ?_
 cases e0 : (x.u == y.u)
 ·exact Z
 refine Y ?_
 refine k'8 [] (c_rs) rfl rfl rfl rfl rfl ?_
 exact Z
theorem AllQ_Rm : AllRP B 47 48 Rm.R rmM.sz rmM.may := All_R B (All_Rm_calls B) Rm.R_sh Rm.sz1 (Rm_May_calls B)
theorem Bt_May_calls (x : Bt) (xa : D) (hbig : x.sz < big) (hx : x.R xa) : k'0 (cx B) 17 [.d xa] [] (.d (.bool x.may)) [] := by
 obtain ⟨z, l, rfl, r_rs⟩ := hx
 unfold Bt.sz at hbig
 have c_rs : k'0 (cx B) 47 [_, _, _] [] (.d (.bool (x.rs.all fun k => rmM.may k 31))) [] := AllQ_Rm B z 32 (by omega) (by omega) (by omega) r_rs
 have c_u := k'o B 50 tb1 (tb1_calls B) x.u 32 (by omega) (by omega) (by omega)
 unfold Bt.may
 generalize (x.rs.all fun k => rmM.may k 31) = qm at *
 generalize k'1l tb1 x.u 32 = ru at *
 refine l_bw Tryz.func17 0 [] ?_
 refine l_cw [] (c_rs) rfl rfl rfl ?_
 cases qm
 ·exact Z
 refine Y ?_
 refine k'8 [] (c_u) rfl rfl rfl rfl rfl ?_
 exact Z
theorem Bt_write_calls (x : Bt) (xa : D) (hbig : x.sz < big) (hwf : x.wf) (hx : x.R xa) (hm : x.may = true) : k'0 (cx B) 35 [.d xa] [] (sT x.mar) [] := by
 have hlen := x.mar_len
 have hlen : x.mar.length < big := by omega
 obtain ⟨z, l, rfl, r_rs⟩ := hx
 unfold Bt.sz at hbig
 unfold Bt.may at hm
 simp only [Bool.and_eq_true] at hm
 unfold Bt.mar Bt.hb at hlen ⊢
 obtain ⟨a1, ha1, c1⟩ := Parts_Rm_R B 1 (by omega) (by omega) z 32 (by omega) hwf hm.1 (by omega) (by omega) r_rs (.nw 71 2) [] k'1s (by simp only [List.length_append, List.length_nil] at hlen ⊢; omega)
 rw [List.nil_append] at c1
 obtain ⟨cu, cs⟩ := k'1x B (s := x.u) ha1 (l := psV 1 (x.rs.map rmM.mar)) (by simp only [List.length_append] at hlen ⊢; omega)
 generalize psV 1 (x.rs.map rmM.mar) = o1 at c1 cu cs ⊢
 refine l_bw Tryz.func35 0 [] ?_
 refine l_wr [1] (c1) k'1s ha1 ?_
 refine l_wr [1] (cu) ha1 (.inl rfl) ?_
 refine k'18 [1] (cs) rfl rfl rfl rfl rfl rfl rfl (by decide) (by simp [k'4 (.inl rfl)]) rfl rfl rfl rfl ?_
 exact Z
theorem k'4b (x : Bt) (xa : D) (hbig : x.sz < big) (hwf : x.wf) (hx : x.R xa) : k'0 (cx B) 12 [.d xa] [] (if x.may then (if tooB x.mar then .tup [sT [], .d (Er.code 7).d] else .tup [sT x.mar, .d .nili]) else .tup [sT [], .d (Er.code 8).d]) [] := by
 have cm := Bt_May_calls B x xa hbig hx
 have cw := fun h => Bt_write_calls B x xa hbig hwf hx h
 have cb := bound_calls B x.mar
 obtain ⟨z, l, rfl, r_rs⟩ := hx
 cases hm : x.may
 ·rw [hm] at cm
  refine l_bw Tryz.func12 0 [] ?_
  refine k'2 [] (cm) rfl rfl rfl ?_
  exact Z
 replace cw := cw hm
 rw [hm] at cm
 simp only [if_true]
 generalize x.mar = s at *
 by_cases ht : tooB s
 ·rw [if_pos ht] at cb ⊢
  refine l_bw Tryz.func12 0 [] ?_
  refine l_cw [] (cm) rfl rfl rfl ?_
  refine l_cw [] (cw) rfl rfl rfl ?_
  refine k'2 [] (cb) rfl rfl rfl ?_
  exact Z
 ·rw [if_neg ht] at cb ⊢
  refine l_bw Tryz.func12 0 [] ?_
  refine l_cw [] (cm) rfl rfl rfl ?_
  refine l_cw [] (cw) rfl rfl rfl ?_
  refine k'2 [] (cb) rfl rfl rfl ?_
  exact Z
theorem okBt_rd (s : List UInt8) : okBt s = (match k'b s 32, k'3 (fun s => rmM.ok s (32 - 1)) 1 (knB tb1 s 32) with
 | none, some rs => some ⟨rs, unB tb1 s 32⟩
 | _, _ => none) := by
 unfold okBt
 rw [k'4k]
 cases k'b s 32 with
 | some e => rfl
 | none =>
  unfold tellBt
  simp only
  cases k'3 (fun s => rmM.ok s (32 - 1)) 1 (knB tb1 s 32) <;> rfl
def rdBt (s : List UInt8) : Option Bt := if tooB s then none else okBt s
theorem rdBt_some {s : List UInt8} {x : Bt} (h : rdBt s = some x) : ¬ tooB s ∧ okBt s = some x := by
 unfold rdBt at h
 split at h
 ·simp at h
 ·exact ⟨‹_›, h⟩
theorem Bt_read (hB : BOk B) (s : List UInt8) (hl : s.length < big) :
  match rdBt s with
  | some x => k'0 (cx B) 26 [sT s] [] (.tup [.d x.d, .d .nili]) []
  | none => ∃ e : Er, (if tooB s then e = .loc 262144 (.code 7) else EIn s.length e) ∧ k'0 (cx B) 26 [sT s] [] (.tup [.d noBt.d, .d e.d]) [] := by
 have cb := bound_calls B s
 by_cases ht : tooB s
 ·rw [show rdBt s = none from if_pos ht]
  rw [if_pos ht] at cb
  refine ⟨.loc 262144 (.code 7), by rw [if_pos ht], ?_⟩
  have ca := At_calls B 262144 (some (.code 7))
  refine l_bw Tryz.func26 0 [] ?_
  refine l_cw [] (cb) rfl rfl rfl ?_
  refine k'2 [] (ca) rfl rfl rfl ?_
  exact Z
 rw [show rdBt s = okBt s from if_neg ht]
 rw [if_neg ht] at cb
 have h1 := k't B hB 50 tb1 (tb1_calls B) s 32 hl (by omega) (by omega)
 have hk : LOk (knB tb1 s 32) := k'e tb1 s 32 hl
 have hm := k'1t hk
 obtain ⟨vs, e1, c_rs, t1⟩ := List_Rm_tells B hB (fun s => rmM.ok s (32 - 1)) id rmM.no 65 [] (k'b s 32) (unB tb1 s 32) 32 s.length (knB tb1 s 32) 1 hk (fun h => by omega) (by omega) (fun x hx hn => Rm_read B hB x.s (32 - 1) (lok_s hk hx) (by omega) (by omega))
 have hein : ∀ x, e1 = some x → EIn s.length x := t1.ein (fun x hx => k'p hx)
 have main : k'0 (cx B) 26 [sT s] [] (.tup [.d (orD e1 (Bt.d ⟨vs, unB tb1 s 32⟩) noBt.d), .d (eD e1)]) [] := by
  unfold Bt.d
  clear hein t1
  refine l_bw Tryz.func26 0 [] ?_
  refine l_cw [] (cb) rfl rfl rfl ?_
  refine l_cw [] (h1) rfl rfl rfl ?_
  refine k'3a (i0 := 7) (z := 8) (t0 := 6) rfl (by decide) rfl rfl rfl rfl rfl rfl rfl rfl rfl rfl ?_
  refine Y ?_
  refine x_cw [1] (c_rs) rfl rfl rfl ?_
  cases e1 with
  | none =>
   exact Z
  | some er =>
   cases er <;> (
   exact Z)
 rw [okBt_rd]
 cases e1 with
 | none =>
  obtain ⟨k0, a1, g1, v1⟩ := t1.ok
  rw [k0, g1]
  rw [List.map_id] at v1
  subst v1
  exact main
 | some er =>
  have hno : (match k'b s 32, k'3 (fun s => rmM.ok s (32 - 1)) 1 (knB tb1 s 32) with
   | none, some rs => some (⟨rs, unB tb1 s 32⟩ : Bt)
   | _, _ => none) = none := by
   cases hr : k'b s 32 with
   | some x => rfl
   | none =>
    rw [hr] at t1
    cases h1 : k'3 (fun s => rmM.ok s (32 - 1)) 1 (knB tb1 s 32) with
    | none => rfl
    | some a1 =>
     rw [h1] at t1
     have := t1.get.2
     simp at this
  rw [hno]
  exact ⟨er, by rw [if_neg ht]; exact hein er rfl, main⟩
theorem Bt_some (hB : BOk B) {s : List UInt8} {x : Bt} (hl : s.length < big) (h : rdBt s = some x) : k'0 (cx B) 26 [sT s] [] (.tup [.d x.d, .d .nili]) [] := by
 have := Bt_read B hB s hl
 rw [h] at this; exact this
theorem Bt_noneE (hB : BOk B) {s : List UInt8} (hl : s.length < big) (h : rdBt s = none) : ∃ e : Er, (if tooB s then e = .loc 262144 (.code 7) else EIn s.length e) ∧ k'0 (cx B) 26 [sT s] [] (.tup [.d noBt.d, .d e.d]) [] := by
 have := Bt_read B hB s hl
 rw [h] at this; exact this
theorem Bt_none (hB : BOk B) {s : List UInt8} (hl : s.length < big) (h : rdBt s = none) : ∃ T x, k'0 (cx B) 26 [sT s] [] (.tup [.d noBt.d, .d (.iface T x)]) [] := by
 obtain ⟨e, -, h1⟩ := Bt_noneE B hB hl h
 obtain ⟨T, x, hx⟩ := er_iface e
 rw [hx] at h1
 exact ⟨T, x, h1⟩
/-! Points. -/
def Sm.sum (g : Me → Nat) (x : Sm) : Nat := (x.qs.map g).sum
def Rm.sum (g : Me → Nat) (x : Rm) : Nat := (x.qs.map (Sm.sum g)).sum
def Bt.sum (g : Me → Nat) (x : Bt) : Nat := (x.rs.map (Rm.sum g)).sum
end
section
structure Sx where
 rej : Int
 msg : List UInt8
 u : List UInt8
def noSx : Sx := ⟨0, [], []⟩
def tbAns (n k : Nat) : Bool := (n == 1 && k == 0) || (n == 2 && k == 2)
def i64N (n : Nat) : Int := IntKind.i64.wrap n
def Sx.hb (x : Sx) : List UInt8 := vrV 1 (k'4i x.rej) ++ txV 2 x.msg
def Sx.hF (x : Sx) : List Fld := vrF 1 (k'4i x.rej) ++ txF 2 x.msg
def Sx.mar (x : Sx) : List UInt8 := x.hb ++ x.u
def Sx.wf (x : Sx) : Prop := -9223372036854775808 ≤ x.rej ∧ x.rej < 9223372036854775808
def Sx.sz (x : Sx) : Nat := 300 + x.msg.length + x.u.length
def Sx.may (x : Sx) (d : Int) : Bool := decide (0 ≤ d) && txt x.msg && k'1l tbAns x.u d
def Sx.eq (x y : Sx) : Bool := x.rej == y.rej && x.msg == y.msg && x.u == y.u
def tellSx (d : Int) (l : List Fld) : Option (List UInt8 → Sx) :=
 match k'1q 2 l with
 | none => none
 | some m => some fun u => ⟨i64N (k'5 l 1).n, m, u⟩
def okSx (s : List UInt8) (d : Int) : Option Sx := apO (okG tbAns tellSx s d)
theorem i64_back {t : Int} (h1 : -9223372036854775808 ≤ t) (h2 : t < 9223372036854775808) : i64N (k'4i t) = t := by
 unfold i64N k'4i
 rw [IntKind.wrap_i64]
 split <;> omega
theorem tempN_lt64 {t : Int} (h1 : -9223372036854775808 ≤ t) (h2 : t < 9223372036854775808) : k'4i t < 2 ^ 64 := by unfold k'4i; split <;> omega
theorem Sx.len (x : Sx) : x.mar.length + 20 ≤ x.sz := by
 have q0 := k'3g 1 (k'4i x.rej)
 have q1 := k'3h 2 x.msg
 unfold Sx.mar Sx.hb Sx.sz
 simp only [List.length_append]
 omega
theorem Sx_back : Back okSx Sx.mar Sx.may (fun x => x.sz < big ∧ x.wf) := by
 intro d x hf hm
 obtain ⟨hbig, w1, w2⟩ := hf
 unfold Sx.sz big at hbig
 have hall : ∀ d, all x.hb d = .ok x.hF := fun d => k'1 (all_vr (by omega) (by omega) d (tempN_lt64 w1 w2)) (all_tx (by omega) (by omega) d (by omega))
 have hinn : inT tbAns x.hF = true := by
  unfold Sx.hF
  simp only [k'35, Bool.and_eq_true]
  exact ⟨in_vr 1 _ rfl, in_tx 2 x.msg rfl⟩
 unfold Sx.may at hm
 simp only [Bool.and_eq_true, decide_eq_true_eq] at hm
 obtain ⟨⟨hd, m_t⟩, hu⟩ := hm
 have s1 : sel 1 x.hF = vrF 1 (k'4i x.rej) := by unfold Sx.hF; simp [k'9, k'k, k'h]
 have s2 : sel 2 x.hF = txF 2 x.msg := by unfold Sx.hF; simp [k'9, k'k, k'h]
 have htell : ∀ d, tellSx d x.hF = some fun u => ⟨x.rej, x.msg, u⟩ := by
  intro d
  unfold tellSx
  rw [text_of s2 m_t, last_vr s1, i64_back w1 w2]
 constructor
 ·unfold okSx Sx.mar
  rw [k'x hd (hall d) hinn hu, htell]
  rfl
 ·intro e he hn
  unfold okSx Sx.mar
  cases hr : k'1l tbAns x.u e with
  | false => rw [k'g (hall e) he hu fun _ => hr]; rfl
  | true =>
   rcases Int.lt_or_le e 0 with h0 | h0
   ·rw [k'1f h0]; rfl
   ·exfalso
    unfold Sx.may at hn
    simp [h0, hr, m_t] at hn
theorem Sx_told : Told okSx Sx.may Sx.wf Sx.sz 400 := by
 intro d s x h
 obtain ⟨f, u, h1, rfl⟩ := k'j h
 obtain ⟨l, -, h2, -, h4, hd, hf, hw⟩ := k'v h1
 dsimp only at h2 h4 hw
 unfold tellSx at h2
 split at h2
 ·simp at h2
 rename_i m g_m
 injection h2 with h2
 subst h2
 obtain ⟨p_m, l_m⟩ := k'3c hf g_m
 refine ⟨?_, wrap64 _, ?_⟩
 ·unfold Sx.may
  simp only [Bool.and_eq_true]
  exact ⟨⟨decide_eq_true hd, p_m⟩, h4⟩
 ·unfold Sx.sz
  dsimp only
  omega
theorem Sx.none (x : Sx) (h : x.eq noSx = true) : x = noSx := by
 obtain ⟨r, m, u⟩ := x
 unfold Sx.eq noSx at h
 simp at h
 obtain ⟨⟨rfl, rfl⟩, rfl⟩ := h
 rfl
def sxM : Ms Sx := ⟨okSx, Sx.mar, Sx.may, Sx.wf, Sx.sz, 400, noSx, Sx.eq, Sx_back, Sx_told, Sx.len, fun x => by unfold Sx.eq; simp, Sx.none, ⟨by decide, by decide⟩, by decide⟩
structure Rp where
 has : Bool
 p : Sx
 u : List UInt8
def Rp.mar (x : Rp) : List UInt8 := pV sxM 1 x.has x.p ++ x.u
def Rp.wf (x : Rp) : Prop := x.p.wf
def Rp.sz (x : Rp) : Nat := 300 + x.p.sz + x.u.length
def Rp.may (x : Rp) : Bool := mayP sxM x.has x.p 31 && k'1l tb1 x.u 32
def Rp.eq (x y : Rp) : Bool := x.has == y.has && (x.p.rej == y.p.rej && (x.p.msg == y.p.msg && (x.p.u == y.p.u && x.u == y.u)))
theorem Rp.eq_self (x : Rp) : x.eq x = true := by unfold Rp.eq; simp
theorem Rp.mar_len (x : Rp) : x.mar.length + 20 ≤ x.sz := by
 have q1 := pV_len sxM 1 x.has x.p
 unfold Rp.mar Rp.sz
 change _ ≤ x.p.sz at q1
 simp only [List.length_append]
 omega
def Rp.d (x : Rp) : D := .agg [.bool x.has, .int .i64 x.p.rej, .str x.p.msg, .str x.p.u, .str x.u]
theorem tbAns_calls (n k : Nat) : k'0 (cx B) 55 [iT n, iT k] [] (.d (.bool (tbAns n k))) [] := by
 rw [show tbAns n k = ((((n : Int) == 1) && ((k : Int) == 0)) || (((n : Int) == 2) && ((k : Int) == 2))) by unfold tbAns; rw [show ((k : Int) == 2) = (k == 2) from ibeq k 2, show ((k : Int) == 0) = (k == 0) from ibeq k 0, show ((n : Int) == 1) = (n == 1) from ibeq n 1, show ((n : Int) == 2) = (n == 2) from ibeq n 2]]
 refine l_bw Tryz.func55 0 [] ?_
 cases e1 : ((n : Int) == 1)
 ·refine Y ?_
  cases e2 : ((n : Int) == 2)
  ·exact Z
  exact Z
 have e2 : ((n : Int) == 2) = false := by have := eq_of_beq e1; simp; omega
 rw [e2]
 refine Y ?_
 cases e3 : ((k : Int) == 0)
 ·refine Y ?_
  rw [e2]
  exact Z
 exact Z
theorem MayAnswer_calls (x : Rp) (hbig : x.sz < big) : k'0 (cx B) 19 [.d x.d] [] (.d (.bool x.may)) [] := by
 unfold Rp.sz Sx.sz at hbig
 have c_t := k'1a B x.p.msg (by omega)
 have c_i := k'o B 55 tbAns (tbAns_calls B) x.p.u 31 (by omega) (by omega) (by omega)
 have c_u := k'o B 50 tb1 (tb1_calls B) x.u 32 (by omega) (by omega) (by omega)
 unfold Rp.may Rp.d
 by_cases hb : x.has = false ∧ x.p.eq noSx = false
 ·rw [show mayP sxM x.has x.p 31 = false by unfold mayP; rw [hb.1]; exact hb.2, Bool.false_and, hb.1]
  have hn := hb.2
  unfold Sx.eq noSx at hn
  refine l_bw Tryz.func19 0 [] ?_
  cases e1 : (x.p.rej != 0)
  rotate_left
  ·exact Z
  refine Y ?_
  rw [show x.p.rej = 0 by simpa using e1] at hn
  simp only [beq_self_eq_true, Bool.true_and] at hn
  cases e2 : (x.p.msg == [])
  ·exact Z
  rw [e2, Bool.true_and] at hn
  refine Y ?_
  rw [hn]
  exact Z
 ·have hm : mayP sxM x.has x.p 31 = (txt x.p.msg && k'1l tbAns x.p.u 31) := by
   unfold mayP
   cases hh : x.has with
   | true => rfl
   | false =>
    have h0 : x.p.eq noSx = true := by
     cases h1 : x.p.eq noSx with
     | true => rfl
     | false => exact absurd ⟨hh, h1⟩ hb
    have := Sx.none _ h0
    rw [this]
    rfl
  rw [hm]
  clear hm
  have key : k'0 (cx B) 19 [.d (.agg [.bool x.has, .int .i64 x.p.rej, .str x.p.msg, .str x.p.u, .str x.u])] [] (.d (.bool (txt x.p.msg && (k'1l tbAns x.p.u 31 && k'1l tb1 x.u 32)))) [] := by
   have tail : ∀ b : Bool, b = x.has → (b = false → x.p.rej = 0 ∧ x.p.msg = [] ∧ x.p.u = []) := fun b e h => by
    subst e
    have h0 : x.p.eq noSx = true := by
     cases h1 : x.p.eq noSx with
     | true => rfl
     | false => exact absurd ⟨h, h1⟩ hb
    have := Sx.none _ h0
    rw [this]
    exact ⟨rfl, rfl, rfl⟩
   clear hb
   generalize k'1l tbAns x.p.u 31 = r1 at *
   generalize k'1l tb1 x.u 32 = r2 at *
   generalize txt x.p.msg = r0 at *
   cases hh : x.has
   rotate_left
   ·refine l_bw Tryz.func19 0 [] ?_
    refine l_cw [] (c_t) rfl rfl rfl ?_
    cases r0
    ·exact Z
    refine Y ?_
    refine k'1m [] (c_i) rfl rfl rfl rfl rfl ?_
    cases r1
    ·exact Z
    refine Y ?_
    refine k'8 [] (c_u) rfl rfl rfl rfl rfl ?_
    exact Z
   obtain ⟨e1, e2, e3⟩ := tail false hh.symm rfl
   rw [e1, e2, e3]
   rw [e2] at c_t
   rw [e3] at c_i
   refine l_bw Tryz.func19 0 [] ?_
   refine l_cw [] (c_t) rfl rfl rfl ?_
   cases r0
   ·exact Z
   refine Y ?_
   refine k'1m [] (c_i) rfl rfl rfl rfl rfl ?_
   cases r1
   ·exact Z
   refine Y ?_
   refine k'8 [] (c_u) rfl rfl rfl rfl rfl ?_
   exact Z
  rw [Bool.and_assoc]
  exact key
theorem Answer_calls (x : Rp) (hbig : x.sz < big) (hwf : x.wf) : k'0 (cx B) 14 [.d x.d] [] (if x.may then (if tooB x.mar then .tup [sT [], .d (Er.code 7).d] else .tup [sT x.mar, .d .nili]) else .tup [sT [], .d (Er.code 8).d]) [] := by
 have cm := MayAnswer_calls B x hbig
 have hl0 := x.p.len
 have hl1 := x.mar_len
 have cb := bound_calls B x.mar
 unfold Rp.sz at hbig hl1
 unfold Rp.d at *
 cases hm : x.may
 ·rw [hm] at cm
  refine l_bw Tryz.func14 0 [] ?_
  refine k'2 [] (cm) rfl rfl rfl ?_
  exact Z
 rw [hm] at cm
 simp only [if_true]
 have fin : ∀ y : List UInt8, y = x.mar → k'0 (cx B) 36 [sT y] [] (.d (if tooB x.mar then (Er.code 7).d else .nili)) [] := fun y e => e ▸ cb
 clear cb
 cases hh : x.has
 ·have e : x.u = x.mar := by unfold Rp.mar pV; rw [hh]; rfl
  obtain ⟨cu, cs⟩ := k'1x B (s := x.u) k'1s (l := []) (by simp only [List.length_nil]; omega)
  rw [List.nil_append, e] at cu cs
  have cb := fin _ rfl
  rw [hh] at cm
  rw [e] at cm ⊢
  generalize x.mar = s at *
  by_cases ht : tooB s
  ·rw [if_pos ht] at cb ⊢
   refine l_bw Tryz.func14 0 [] ?_
   refine l_cw [] (cm) rfl rfl rfl ?_
   refine l_wr [1] (cu) k'1s (.inl rfl) ?_
   refine l_ws [1] (cs) (.inl rfl) ?_
   refine k'2 [] (cb) rfl rfl rfl ?_
   exact Z
  ·rw [if_neg ht] at cb ⊢
   refine l_bw Tryz.func14 0 [] ?_
   refine l_cw [] (cm) rfl rfl rfl ?_
   refine l_wr [1] (cu) k'1s (.inl rfl) ?_
   refine l_ws [1] (cs) (.inl rfl) ?_
   refine k'2 [] (cb) rfl rfl rfl ?_
   exact Z
 have e : paV 1 x.p.mar ++ x.u = x.mar := by unfold Rp.mar pV; rw [hh]; rfl
 have hle := paV_ge 1 x.p.mar
 rw [← e, List.length_append] at hl1
 have em : x.p.mar = vrV 1 (k'4i x.p.rej) ++ txV 2 x.p.msg ++ x.p.u := rfl
 rw [em, List.length_append, List.length_append] at hl0
 unfold Sx.sz at hbig hl0 hl1
 obtain ⟨b0, hb0, d0⟩ := wr_var B 1 (k'4i x.p.rej) (by omega) (by omega) (tempN_lt64 hwf.1 hwf.2) (.nw 71 2) [] k'1s (by simp only [List.length_nil]; omega)
 rw [List.nil_append] at d0
 obtain ⟨b1, hb1, d1⟩ := k'25 B 2 x.p.msg (by omega) (by omega) b0 (vrV 1 (k'4i x.p.rej)) hb0 (by omega)
 obtain ⟨du, ds⟩ := k'1x B (s := x.p.u) hb1 (l := vrV 1 (k'4i x.p.rej) ++ txV 2 x.p.msg) (by simp only [List.length_append]; omega)
 rw [← em] at du ds
 obtain ⟨a0, ha0, c0⟩ := k'4m B 1 x.p.mar (by omega) (by omega) (.nw 71 2) [] k'1s (by simp only [List.length_nil]; omega)
 rw [List.nil_append] at c0
 obtain ⟨cu, cs⟩ := k'1x B (s := x.u) ha0 (l := paV 1 x.p.mar) (by omega)
 rw [e] at cu cs
 have cb := fin _ rfl
 rw [hh] at cm
 have hr : IntKind.u64.wrap x.p.rej = (k'4i x.p.rej : Int) := by
  have := hwf
  unfold Rp.wf Sx.wf at this
  unfold k'4i
  rw [IntKind.wrap_u64]
  split <;> omega
 clear fin hl0 hl1 em hle e
 generalize vrV 1 (k'4i x.p.rej) ++ txV 2 x.p.msg = o2 at *
 generalize vrV 1 (k'4i x.p.rej) = o1 at *
 generalize paV 1 x.p.mar = o3 at *
 generalize x.p.mar = o4 at *
 generalize x.mar = s at *
 by_cases ht : tooB s
 ·rw [if_pos ht] at cb ⊢
  refine l_bw Tryz.func14 0 [] ?_
  refine l_cw [] (cm) rfl rfl rfl ?_
  rw [hr]
  refine l_wr [2] (d0) k'1s hb0 ?_
  refine l_wr [2] (d1) hb0 hb1 ?_
  refine l_wr [2] (du) hb1 (.inl rfl) ?_
  refine l_ws [2] (ds) (.inl rfl) ?_
  refine l_wr [1] (c0) k'1s ha0 ?_
  refine l_wr [1] (cu) ha0 (.inl rfl) ?_
  refine l_ws [1] (cs) (.inl rfl) ?_
  refine k'2 [] (cb) rfl rfl rfl ?_
  exact Z
 ·rw [if_neg ht] at cb ⊢
  refine l_bw Tryz.func14 0 [] ?_
  refine l_cw [] (cm) rfl rfl rfl ?_
  rw [hr]
  refine l_wr [2] (d0) k'1s hb0 ?_
  refine l_wr [2] (d1) hb0 hb1 ?_
  refine l_wr [2] (du) hb1 (.inl rfl) ?_
  refine l_ws [2] (ds) (.inl rfl) ?_
  refine l_wr [1] (c0) k'1s ha0 ?_
  refine l_wr [1] (cu) ha0 (.inl rfl) ?_
  refine l_ws [1] (cs) (.inl rfl) ?_
  refine k'2 [] (cb) rfl rfl rfl ?_
  exact Z
end
section
def btX : Bt := ⟨[trNo rsM], []⟩
def rpX : Rp := ⟨true, ⟨1, [], []⟩, []⟩
theorem firstBt_calls (hB : BOk B) : k'0 (cx B) 10 [] [] (.d (.bool true)) [] := by
 have h1 := k'4b B btX btX.d (by unfold big; decide) (fun k hk => by rw [List.mem_singleton.1 hk]; exact rmM.nowf) btX.d_R
 have hm : btX.may = true := by
  show ((trMay rsM smM (trNo rsM) 31 && true) && k'1l tb1 [] 32) = true
  have e : mayP rsM false rsM.no (31 - 1) = true := rsM.self _
  rw [show trMay rsM smM (trNo rsM) 31 = (decide ((0 : Int) ≤ 31) && mayP rsM false rsM.no (31 - 1) && txt [] && true && k'1l tb3 [] 31) from rfl, e]
  rfl
 rw [if_pos hm, show btX.mar = [10, 0] by rfl, if_neg (by unfold tooB; decide)] at h1
 rw [show btX.d = .agg [.sl false [.agg [.bool false, .sl true [], .int .u32 0, .str [], .sl true [], .str [], .str []]], .str []] from rfl] at h1
 have h2 := Bt_some B hB (s := [10, 0]) (x := btX) (by unfold big; decide) (by rfl)
 rw [show btX.d = .agg [.sl false [.agg [.bool false, .sl true [], .int .u32 0, .str [], .sl true [], .str [], .str []]], .str []] from rfl] at h2
 have h3 := Answer_calls B rpX (by unfold big; decide) ⟨by decide, by decide⟩
 rw [if_pos (show rpX.may = true by rfl), show rpX.mar = [10, 2, 8, 1] by rfl, if_neg (by unfold tooB; decide)] at h3
 unfold Rp.d rpX at h3
 refine l_bw Tryz.func10 0 [] ?_
 refine k'6 (.buildSlice (es := [.agg [.bool false, .sl true [], .int .u32 0, .str [], .sl true [], .str [], .str []]]) rfl rfl rfl rfl rfl rfl (by intro x hx; simp at hx; subst hx; rfl) (by simp) (by decide) (by decide)) rfl rfl ?_
 refine Y ?_
 refine l_cw [] (h1) rfl rfl rfl ?_
 refine l_cw [] (h2) rfl rfl rfl ?_
 refine k'2 [] (h3) rfl rfl rfl ?_
 exact Z
end
