/- ScopeMetrics and ResourceMetrics: alike, may they be, written, read. -/
import Derived.Test.YtidcjbkenpgnoaaGreatDoorMJ
import Derived.Test.YtidcjbkenpgnoaaGreatDoorMU
set_option linter.unusedSimpArgs false
set_option linter.unusedVariables false
set_option maxRecDepth 100000
namespace Go.Proofs.YtidcjbkenpgnoaaGreatDoor
open Go Go.Abs
theorem wrap64 (n : Int) : -9223372036854775808 ≤ IntKind.i64.wrap n ∧ IntKind.i64.wrap n < 9223372036854775808 := by rw [IntKind.wrap_i64]; omega
theorem tr_rd {P Q : Type} (a : Ms P) (b : Ms Q) (s : List UInt8) (d : Int) : trOk a b s d = (match k'd s d, k'3 (fun s => b.ok s (d - 1)) 2 (knB tb3 s d), k'1x 3 (knB tb3 s d), k'3p (fun s => a.ok s (d - 1)) a.no 1 (knB tb3 s d) with
 | none, some qs, some t, some p => some ⟨p.1, p.2, qs, t, unB tb3 s d⟩
 | _, _, _, _ => none) := by
 unfold trOk
 rw [k'4a]
 cases k'd s d with
 | some e => rfl
 | none =>
  unfold trTell
  simp only
  cases k'3p (fun s => a.ok s (d - 1)) a.no 1 (knB tb3 s d) <;> cases k'3 (fun s => b.ok s (d - 1)) 2 (knB tb3 s d) <;> cases k'1x 3 (knB tb3 s d) <;> rfl
theorem tr_fin {P Q : Type} {a : Ms P} {b : Ms Q} {s : List UInt8} {d : Int} {vs : List Q} {vt : List UInt8} {ph : Bool} {pv : P} {e1 e2 e3 : Option Er} {n : Nat} (t1 : Tells n (k'd s d) (k'3 (fun s => b.ok s (d - 1)) 2 (knB tb3 s d)) (List.map id) vs e1) (t2 : Tells n e1 (k'1x 3 (knB tb3 s d)) id vt e2)
  (t3 : Tells n e2 (k'3p (fun s => a.ok s (d - 1)) a.no 1 (knB tb3 s d)) (fun p => (p.1, id p.2)) (ph, pv) e3) : match trOk a b s d with | some x => e3 = none ∧ x = ⟨ph, pv, vs, vt, unB tb3 s d⟩ | none => ∃ er, e3 = some er := by
 rw [tr_rd]
 cases e3 with
 | none =>
  obtain ⟨k2, a3, g3, v3⟩ := t3.ok
  subst k2
  obtain ⟨k1, a2, g2, v2⟩ := t2.ok
  subst k1
  obtain ⟨k0, a1, g1, v1⟩ := t1.ok
  rw [k0, g1, g2, g3]
  simp only [id_eq, List.map_id, Prod.mk.injEq] at v1 v2 v3
  obtain ⟨rfl, rfl⟩ := v3
  subst v1
  subst v2
  exact ⟨rfl, rfl⟩
 | some er =>
  cases hr : k'd s d with
  | some x => exact ⟨er, rfl⟩
  | none =>
   rw [hr] at t1
   cases h1 : k'3 (fun s => b.ok s (d - 1)) 2 (knB tb3 s d) with
   | none => exact ⟨er, rfl⟩
   | some a1 =>
    rw [h1] at t1
    obtain ⟨-, q1⟩ := t1.get
    subst q1
    cases h2 : k'1x 3 (knB tb3 s d) with
    | none => exact ⟨er, rfl⟩
    | some a2 =>
     rw [h2] at t2
     obtain ⟨-, q2⟩ := t2.get
     subst q2
     cases h3 : k'3p (fun s => a.ok s (d - 1)) a.no 1 (knB tb3 s d) with
     | none => exact ⟨er, rfl⟩
     | some a3 =>
      rw [h3] at t3
      have := t3.get.2
      simp at this
variable (B : Fr)
theorem tb3_calls (n k : Nat) : k'0 (cx B) 99 [iT n, iT k] [] (.d (.bool (tb3 n k))) [] := by
 rw [show tb3 n k = (decide ((n : Int) ≥ 1) && (decide ((n : Int) ≤ 3) && ((k : Int) == 2))) by
  unfold tb3
  rw [show ((k : Int) == 2) = (k == 2) from ibeq k 2, show decide ((n : Int) ≥ 1) = decide (1 ≤ n) by congr 1; apply propext; omega, show decide ((n : Int) ≤ 3) = decide (n ≤ 3) by congr 1; apply propext; omega]]
 refine l_bw Tryz.func99 0 [] ?_
 cases e1 : decide ((n : Int) ≥ 1)
 ·exact Z
 refine Y ?_
 cases e2 : decide ((n : Int) ≤ 3)
 ·exact Z
 exact Z
theorem tb1_calls (n k : Nat) : k'0 (cx B) 50 [iT n, iT k] [] (.d (.bool (tb1 n k))) [] := by
 rw [show tb1 n k = (((n : Int) == 1) && ((k : Int) == 2)) by unfold tb1; rw [show ((k : Int) == 2) = (k == 2) from ibeq k 2, show ((n : Int) == 1) = (n == 1) from ibeq n 1]]
 refine l_bw Tryz.func50 0 [] ?_
 cases e1 : ((n : Int) == 1)
 ·exact Z
 exact Z
def Sm.d (x : Sm) : D := .agg [.bool x.has, .str x.p.name, .str x.p.version, slD (Kv.ds x.p.attrs), .int .u32 x.p.dropped, .str x.p.u, slD (x.qs.map Me.d), .str x.sch, .str x.u]
def Sm.R (x : Sm) (a : D) : Prop := ∃ (zp : Bool) (lp : List D) (z : Bool) (l : List D), a = .agg [.bool x.has, .str x.p.name, .str x.p.version, .sl zp lp, .int .u32 x.p.dropped, .str x.p.u, .sl z l, .str x.sch, .str x.u] ∧ Kv.Rs x.p.attrs lp ∧ RsOf Me.R x.qs l
def SmSh (x : D) : Prop := ∃ (a0 : Bool) (a1 : List UInt8) (a2 : List UInt8) (a3 : Bool) (a4 : List D) (a5 : Nat) (a6 : List UInt8) (a7 : Bool) (a8 : List D) (a9 : List UInt8) (a10 : List UInt8), x = .agg [.bool a0, .str a1, .str a2, .sl a3 a4, .int .u32 a5, .str a6, .sl a7 a8, .str a9, .str a10]
theorem Sm.R_sh {l : List Sm} {xs : List D} (h : RsOf Sm.R l xs) : ∀ x ∈ xs, SmSh x := fun x hx => by
 obtain ⟨v, -, zp, lp, z, m, e, -⟩ := h.mem hx
 exact ⟨_, _, _, _, _, _, _, _, _, _, _, e⟩
theorem Sm.d_R (x : Sm) : Sm.R x (Sm.d x) := ⟨_, _, _, _, rfl, Kv.ds_R _, RsOf.map Me.d_R _⟩
theorem Sm.sz1 (x : Sm) : 1 ≤ smM.sz x := by
 show 1 ≤ trSz scM meM x
 unfold trSz
 omega
theorem EqL_Me_R : EqRP B 176 177 Me.R meM.sz (eqsL meM.eq) := EqF_R B (EqF_Me_calls B) Me.Rs_sh (fun x => by show 1 ≤ Me.sz x; unfold Me.sz; omega) (eqsL_by meM.eq) (Me_Same_calls B)
theorem Sm_Same_calls (x y : Sm) (xa ya : D) (hbig : smM.sz x < big) (hx : Sm.R x xa) (hy : Sm.R y ya) : k'0 (cx B) 122 [.d xa, .d ya] [] (.d (.bool (smM.eq x y))) [] := by
 obtain ⟨zp, lp, z, l, rfl, r_p, r_qs⟩ := hx
 obtain ⟨wp, mp, w, m, rfl, s_p, s_qs⟩ := hy
 have hp : Sc.sz x.p < big := by
  change 300 + Sc.sz x.p + _ + _ + _ < big at hbig
  omega
 change trSz scM meM x < big at hbig
 unfold trSz at hbig
 have c_p : k'0 (cx B) 145 [_, _] [] (.d (.bool (scM.eq x.p y.p))) [] := Sc_Same_calls B x.p y.p _ _ hp ⟨zp, lp, rfl, r_p⟩ ⟨wp, mp, rfl, s_p⟩
 have c_qs := EqL_Me_R B z w (by omega) r_qs s_qs
 show k'0 (cx B) 122 [_, _] [] (.d (.bool (trEq scM meM x y))) []
 unfold trEq
 generalize scM.eq x.p y.p = ep at *
 generalize eqsL meM.eq x.qs y.qs = eq at *
 refine l_bw Tryz.func122 0 [] ?_
 cases e0 : (x.has == y.has)
 ·exact Z
 refine Y ?_
 cases e1 : (x.sch == y.sch)
 ·exact Z
 refine Y ?_
 cases e2 : (x.u == y.u)
 ·exact Z
 refine Y ?_
 refine k'1w [] (c_p) rfl rfl rfl rfl rfl ?_
 cases ep
 ·exact Z
 refine Y ?_
 refine k'8 [] (c_qs) rfl rfl rfl rfl rfl ?_
 exact Z
theorem EqF_Sm_calls : EqFP B 121 SmSh := EqF_mk B Tryz.func121
theorem AllQ_Me : AllRP B 147 148 Me.R meM.sz meM.may := All_R B (All_Me_calls B) Me.Rs_sh (fun x => by show 1 ≤ Me.sz x; unfold Me.sz; omega) (Me_May_calls B)
theorem Sm_May_calls (x : Sm) (xa : D) (d : Int) (hbig : smM.sz x < big) (hx : Sm.R x xa) (hd0 : -9223372036854775808 ≤ d) (hd2 : d < 9223372036854775808) : k'0 (cx B) 98 [.d xa, .d (.int .i64 d)] [] (.d (.bool (smM.may x d))) [] := by
 obtain ⟨zp, lp, z, l, rfl, r_p, r_qs⟩ := hx
 have hp : Sc.sz x.p < big := by
  change 300 + Sc.sz x.p + _ + _ + _ < big at hbig
  omega
 change trSz scM meM x < big at hbig
 unfold trSz at hbig
 have c_s : k'0 (cx B) 145 [_, _] [] (.d (.bool (scM.eq x.p scM.no))) [] := Sc_Same_calls B x.p noSc _ _ hp ⟨zp, lp, rfl, r_p⟩ (Sc.d_R _)
 have hw := wrap64 (d - 1)
 have c_m : k'0 (cx B) 146 [_, .d (.int .i64 (IntKind.i64.wrap (d - 1)))] [] (.d (.bool (scM.may x.p (IntKind.i64.wrap (d - 1))))) [] := Sc_May_calls B x.p _ _ hp ⟨zp, lp, rfl, r_p⟩ hw.1 hw.2
 have c_t := k'1j B x.sch (by omega)
 have c_u := k't B 99 tb3 (tb3_calls B) x.u d (by omega) hd0 hd2
 show k'0 (cx B) 98 [_, _] [] (.d (.bool (trMay scM meM x d))) []
 unfold trMay
 by_cases h0 : 0 ≤ d
 ·have c_qs := AllQ_Me B z d (by omega) h0 hd2 r_qs
  rw [k'39 (by omega) (by omega)] at c_m
  have hP : mayP scM x.has x.p (d - 1) = (if x.has then scM.may x.p (d - 1) else scM.eq x.p scM.no) := rfl
  rw [hP, decide_eq_true h0]
  clear hP
  generalize scM.may x.p (d - 1) = pm at *
  generalize scM.eq x.p scM.no = pe at *
  generalize (x.qs.all fun k => meM.may k (d - 1)) = qm at *
  generalize k'1s tb3 x.u d = ru at *
  refine l_bw Tryz.func98 0 [] ?_
  refine k'1 [] (c_s) rfl rfl rfl ?_
  refine stp ?_
  refine l_join [(1, .d (.int .i64 d)), (2, .ptr 0 0), (5, .d (.bool (if x.has then pm else pe)))] [.mu [.d (.bool x.has), .d (.str x.p.name), .d (.str x.p.version), .d (.sl zp lp), .d (.int .u32 x.p.dropped), .d (.str x.p.u), .d (.sl z l), .d (.str x.sch), .d (.str x.u)]] True ?_ (fun _ e => ?_)
  ·cases hh : x.has
   ·refine Y ?_
    exact ⟨trivial, ⟨rfl, rfl, rfl, trivial⟩, rfl⟩
   refine Y ?_
   rw [k'39 (by omega) (by omega)]
   refine l_cw [] (c_m) rfl rfl rfl ?_
   exact ⟨trivial, ⟨rfl, rfl, rfl, trivial⟩, rfl⟩
  ·generalize (if x.has then pm else pe) = pb
   refine Y ?_
   rw [show decide (d ≥ 0) = true from decide_eq_true h0]
   refine Y ?_
   cases pb
   ·exact Z
   refine Y ?_
   refine k'1w [] (c_t) rfl rfl rfl rfl rfl ?_
   cases txt x.sch
   ·exact Z
   refine Y ?_
   refine k'1w [] (c_qs) rfl rfl rfl rfl rfl ?_
   cases qm
   ·exact Z
   refine Y ?_
   refine k'8 [] (c_u) rfl rfl rfl rfl rfl ?_
   exact Z
 ·rw [decide_eq_false h0]
  simp only [Bool.false_and]
  generalize scM.may x.p (IntKind.i64.wrap (d - 1)) = pm at *
  generalize scM.eq x.p scM.no = pe at *
  refine l_bw Tryz.func98 0 [] ?_
  refine l_cw [] (c_s) rfl rfl rfl ?_
  cases hh : x.has
  ·refine Y ?_
   rw [show decide (d ≥ 0) = false from decide_eq_false h0]
   exact Z
  refine Y ?_
  refine l_cw [] (c_m) rfl rfl rfl ?_
  rw [show decide (d ≥ 0) = false from decide_eq_false h0]
  exact Z
theorem All_Sm_calls : AllP B 97 SmSh := All_of B (All1_mk B Tryz.func144) (k'2m B Tryz.func192) (Cont_mk B Tryz.func143) (Allc_mk B Tryz.func97)
theorem PartsQ_Me : k'3o B 184 185 Me.R meM.sz meM.wf meM.may meM.mar := Parts_Me_R B
theorem Sm_write_calls (x : Sm) (xa : D) (d : Int) (hbig : smM.sz x < big) (hwf : smM.wf x) (hx : Sm.R x xa) (hd2 : d < 9223372036854775808) (hm : smM.may x d = true) : k'0 (cx B) 130 [.d xa, .d (.int .i64 d)] [] (.tup [sT (smM.mar x), .d .nili]) [] := by
 have hlen := smM.len x
 have hlen : (smM.mar x).length < big := by omega
 obtain ⟨zp, lp, z, l, rfl, r_p, r_qs⟩ := hx
 have hp : Sc.sz x.p < big := by
  change 300 + Sc.sz x.p + _ + _ + _ < big at hbig
  omega
 change trSz scM meM x < big at hbig
 unfold trSz at hbig
 change trMay scM meM x d = true at hm
 unfold trMay at hm
 simp only [Bool.and_eq_true, decide_eq_true_eq] at hm
 obtain ⟨⟨⟨⟨hd, m_p⟩, m_sch⟩, m_qs⟩, hu⟩ := hm
 obtain ⟨w_p, w_qs⟩ := hwf
 change (trMar scM meM x).length < big at hlen
 show k'0 (cx B) 130 [_, _] [] (.tup [sT (trMar scM meM x), .d .nili]) []
 unfold trMar trB pV at hlen ⊢
 cases hh : x.has
 ·rw [hh] at hlen
  simp only [Bool.false_eq_true, if_false, List.nil_append] at hlen ⊢
  obtain ⟨a1, ha1, c1⟩ := PartsQ_Me B 2 (by omega) (by omega) z d (by omega) w_qs m_qs hd hd2 r_qs (.nw 71 2) [] k'22 (by simp only [List.length_append, List.length_nil] at hlen ⊢; omega)
  obtain ⟨a2, ha2, c2⟩ := k'2g B 3 x.sch (by omega) (by omega) a1 ([] ++ psV 2 (x.qs.map meM.mar)) ha1 (by simp only [List.length_append, List.length_nil] at hlen ⊢; omega)
  rw [List.nil_append] at c1 c2
  obtain ⟨cu, cs⟩ := k'26 B (s := x.u) ha2 (l := psV 2 (x.qs.map meM.mar) ++ txV 3 x.sch) (by simp only [List.length_append] at hlen ⊢; omega)
  generalize psV 2 (x.qs.map meM.mar) ++ txV 3 x.sch = o2 at c2 cu cs ⊢
  generalize psV 2 (x.qs.map meM.mar) = o1 at c1 c2
  refine l_bw Tryz.func130 0 [] ?_
  refine l_wr [1] (c1) k'22 ha1 ?_
  refine l_wr [1] (c2) ha1 ha2 ?_
  refine l_wr [1] (cu) ha2 (.inl rfl) ?_
  refine k'1g [1] (cs) rfl rfl rfl rfl rfl rfl rfl (by decide) (by simp [k'5 (.inl rfl)]) rfl rfl rfl rfl ?_
  exact Z
 have cm := Sc_Marshal_calls B x.p _ (d - 1) hp w_p ⟨zp, lp, rfl, r_p⟩ (by omega) (by omega)
 rw [hh] at m_p hlen
 rw [if_pos (show Sc.may x.p (d - 1) = true from m_p)] at cm
 simp only [if_true] at hlen ⊢
 have e : scM.mar x.p = Sc.mar x.p := rfl
 rw [e] at hlen ⊢
 obtain ⟨a0, ha0, c0⟩ := k'56 B 1 (Sc.mar x.p) (by omega) (by omega) (.nw 71 2) [] k'22 (by simp only [List.length_append, List.length_nil] at hlen ⊢; omega)
 rw [List.nil_append] at c0
 obtain ⟨a1, ha1, c1⟩ := PartsQ_Me B 2 (by omega) (by omega) z d (by omega) w_qs m_qs hd hd2 r_qs a0 (paV 1 (Sc.mar x.p)) ha0 (by simp only [List.length_append] at hlen ⊢; omega)
 obtain ⟨a2, ha2, c2⟩ := k'2g B 3 x.sch (by omega) (by omega) a1 (paV 1 (Sc.mar x.p) ++ psV 2 (x.qs.map meM.mar)) ha1 (by simp only [List.length_append] at hlen ⊢; omega)
 obtain ⟨cu, cs⟩ := k'26 B (s := x.u) ha2 (l := paV 1 (Sc.mar x.p) ++ psV 2 (x.qs.map meM.mar) ++ txV 3 x.sch) (by simp only [List.length_append] at hlen ⊢; omega)
 generalize paV 1 (Sc.mar x.p) ++ psV 2 (x.qs.map meM.mar) ++ txV 3 x.sch = o2 at c2 cu cs ⊢
 generalize paV 1 (Sc.mar x.p) ++ psV 2 (x.qs.map meM.mar) = o1 at c1 c2
 generalize paV 1 (Sc.mar x.p) = o0 at c0 c1
 refine l_bw Tryz.func130 0 [] ?_
 rw [k'39 (by omega) (by omega)]
 refine l_cw [] (cm) rfl rfl rfl ?_
 refine l_wr [1] (c0) k'22 ha0 ?_
 refine l_wr [1] (c1) ha0 ha1 ?_
 refine l_wr [1] (c2) ha1 ha2 ?_
 refine l_wr [1] (cu) ha2 (.inl rfl) ?_
 refine k'1g [1] (cs) rfl rfl rfl rfl rfl rfl rfl (by decide) (by simp [k'5 (.inl rfl)]) rfl rfl rfl rfl ?_
 exact Z
theorem Parts_Sm_wr : PartsP B 129 SmSh := k'3j B Tryz.func129
theorem Parts_Sm_R : k'3o B 129 130 Sm.R smM.sz smM.wf smM.may smM.mar := Parts_R0 B (Parts_Sm_wr B) Sm.R_sh fun v x d a b c _ e h => Sm_write_calls B v x d a b c e h
theorem Part_Sc : PartC B 162 Sc.d (noSc) := Part_mk B Tryz.func162 (part_Sc_calls B)
theorem Sm_read (hB : BOk B) (s : List UInt8) (d : Int) (hl : s.length < big) (hd1 : -9223372036854775808 ≤ d) (hd2 : d < 9223372036854775808) : RdAt B 110 [] Sm.d id (smM.ok s d) s d := by
 have h1 := k'o B hB 99 tb3 (tb3_calls B) s d hl hd1 hd2
 have hk : LOk (knB tb3 s d) := k'e tb3 s d hl
 have hm := k'1p hk
 obtain ⟨vs_qs, e1, c_qs, t1⟩ := List_Me_tells B hB (fun s => meM.ok s (d - 1)) id meM.no 161 [] (k'd s d) (unB tb3 s d) d s.length (knB tb3 s d) 2 hk (fun h => by have := k'1u h; omega) hd2 (fun x hx hn => (Me_read B hB x.s (d - 1) (lok_s hk hx) (by have := k'2e hx; omega) (by omega)).1.at)
 obtain ⟨vs_t, e2, c_t, t2, -⟩ := k'1t B hB e1 (unB tb3 s d) d s.length (knB tb3 s d) 3 hk
 obtain ⟨⟨ph, pv⟩, e3, c_p, t3⟩ := (Part_Sc B).tells B hB (fun s => scM.ok s (d - 1)) id noSc rfl 163 [] e2 (unB tb3 s d) d s.length (knB tb3 s d) 1 hk (fun h => by have := k'1u h; omega) hd2 (fun h => (Sc_read B hB _ (d - 1) (k'50 hk 1) (by have := k'1u h; omega) (by omega)).1.at)
 have hein : ∀ x, e3 = some x → EIn s.length x := t3.ein (t2.ein (t1.ein (fun x hx => k'n hx)))
 have main : k'0 (cx B) 110 [sT s, .d (.int .i64 d)] [] (.tup [.d (Sm.d ⟨ph, pv, vs_qs, vs_t, unB tb3 s d⟩), .d (eD e3)]) [] := by
  unfold Sm.d
  clear hein t1 t2 t3
  unfold Sc.d at c_p
  refine l_bw Tryz.func110 0 [] ?_
  refine l_cw [] (h1) rfl rfl rfl ?_
  refine k'3q (i0 := 9) (z := 10) (t0 := 7) rfl (by decide) rfl rfl rfl rfl rfl rfl rfl rfl rfl rfl ?_
  refine Y ?_
  refine x_cw [1] (c_qs) rfl rfl rfl ?_
  refine x_cw [1] (c_t) rfl rfl rfl ?_
  refine k'1 [1] (c_p) rfl rfl rfl ?_
  exact Z
 have hf := tr_fin (a := scM) (b := meM) t1 t2 t3
 unfold RdAt
 rw [show smM.ok s d = trOk scM meM s d from rfl]
 cases ho : trOk scM meM s d with
 | some x =>
  rw [ho] at hf
  obtain ⟨h3, h4⟩ := hf
  subst h3
  subst h4
  exact main
 | none =>
  rw [ho] at hf
  obtain ⟨er, h3⟩ := hf
  subst h3
  exact ⟨_, er, hein er rfl, main⟩
theorem Sm_fits (l : List Sm) : ∀ a ∈ l.map Sm.d, a.fits 9 = true := by
 intro a ha
 obtain ⟨c, -, rfl⟩ := List.mem_map.1 ha
 rfl
theorem part_Sm_calls : partP B 159 Sm.d := k'2s B Tryz.func159
theorem List_Sm_calls : ListP B 109 Sm.d := List_S B (fun x => Sm_fits [x]) (part_Sm_calls B) (k'4u B Tryz.func109)
theorem List_Sm_tells : ListT B 109 Sm.d := k'1r B (List_Sm_calls B)
def Rm.d (x : Rm) : D := .agg [.bool x.has, slD (Kv.ds x.p.attrs), .int .u32 x.p.dropped, .str x.p.u, slD (x.qs.map Sm.d), .str x.sch, .str x.u]
def Rm.R (x : Rm) (a : D) : Prop := ∃ (zp : Bool) (lp : List D) (z : Bool) (l : List D), a = .agg [.bool x.has, .sl zp lp, .int .u32 x.p.dropped, .str x.p.u, .sl z l, .str x.sch, .str x.u] ∧ Kv.Rs x.p.attrs lp ∧ RsOf Sm.R x.qs l
def RmSh (x : D) : Prop := ∃ (a0 : Bool) (a1 : Bool) (a2 : List D) (a3 : Nat) (a4 : List UInt8) (a5 : Bool) (a6 : List D) (a7 : List UInt8) (a8 : List UInt8), x = .agg [.bool a0, .sl a1 a2, .int .u32 a3, .str a4, .sl a5 a6, .str a7, .str a8]
theorem Rm.R_sh {l : List Rm} {xs : List D} (h : RsOf Rm.R l xs) : ∀ x ∈ xs, RmSh x := fun x hx => by
 obtain ⟨v, -, zp, lp, z, m, e, -⟩ := h.mem hx
 exact ⟨_, _, _, _, _, _, _, _, _, e⟩
theorem Rm.d_R (x : Rm) : Rm.R x (Rm.d x) := ⟨_, _, _, _, rfl, Kv.ds_R _, RsOf.map Sm.d_R _⟩
theorem Rm.sz1 (x : Rm) : 1 ≤ rmM.sz x := by
 show 1 ≤ trSz rsM smM x
 unfold trSz
 omega
theorem EqL_Sm_R : EqRP B 121 122 Sm.R smM.sz (eqsL smM.eq) := EqF_R B (EqF_Sm_calls B) Sm.R_sh Sm.sz1 (eqsL_by smM.eq) (Sm_Same_calls B)
theorem Rm_Same_calls (x y : Rm) (xa ya : D) (hbig : rmM.sz x < big) (hx : Rm.R x xa) (hy : Rm.R y ya) : k'0 (cx B) 74 [.d xa, .d ya] [] (.d (.bool (rmM.eq x y))) [] := by
 obtain ⟨zp, lp, z, l, rfl, r_p, r_qs⟩ := hx
 obtain ⟨wp, mp, w, m, rfl, s_p, s_qs⟩ := hy
 have hp : Rs.sz x.p < big := by
  change 300 + Rs.sz x.p + _ + _ + _ < big at hbig
  omega
 change trSz rsM smM x < big at hbig
 unfold trSz at hbig
 have c_p : k'0 (cx B) 95 [_, _] [] (.d (.bool (rsM.eq x.p y.p))) [] := Rs_Same_calls B x.p y.p _ _ hp ⟨zp, lp, rfl, r_p⟩ ⟨wp, mp, rfl, s_p⟩
 have c_qs := EqL_Sm_R B z w (by omega) r_qs s_qs
 show k'0 (cx B) 74 [_, _] [] (.d (.bool (trEq rsM smM x y))) []
 unfold trEq
 generalize rsM.eq x.p y.p = ep at *
 generalize eqsL smM.eq x.qs y.qs = eq at *
 refine l_bw Tryz.func74 0 [] ?_
 cases e0 : (x.has == y.has)
 ·exact Z
 refine Y ?_
 cases e1 : (x.sch == y.sch)
 ·exact Z
 refine Y ?_
 cases e2 : (x.u == y.u)
 ·exact Z
 refine Y ?_
 refine k'1w [] (c_p) rfl rfl rfl rfl rfl ?_
 cases ep
 ·exact Z
 refine Y ?_
 refine k'8 [] (c_qs) rfl rfl rfl rfl rfl ?_
 exact Z
theorem EqF_Rm_calls : EqFP B 73 RmSh := EqF_mk B Tryz.func73
theorem AllQ_Sm : AllRP B 97 98 Sm.R smM.sz smM.may := All_R B (All_Sm_calls B) Sm.R_sh Sm.sz1 (Sm_May_calls B)
theorem Rm_May_calls (x : Rm) (xa : D) (d : Int) (hbig : rmM.sz x < big) (hx : Rm.R x xa) (hd0 : -9223372036854775808 ≤ d) (hd2 : d < 9223372036854775808) : k'0 (cx B) 48 [.d xa, .d (.int .i64 d)] [] (.d (.bool (rmM.may x d))) [] := by
 obtain ⟨zp, lp, z, l, rfl, r_p, r_qs⟩ := hx
 have hp : Rs.sz x.p < big := by
  change 300 + Rs.sz x.p + _ + _ + _ < big at hbig
  omega
 change trSz rsM smM x < big at hbig
 unfold trSz at hbig
 have c_s : k'0 (cx B) 95 [_, _] [] (.d (.bool (rsM.eq x.p rsM.no))) [] := Rs_Same_calls B x.p noRs _ _ hp ⟨zp, lp, rfl, r_p⟩ (Rs.d_R _)
 have hw := wrap64 (d - 1)
 have c_m : k'0 (cx B) 96 [_, .d (.int .i64 (IntKind.i64.wrap (d - 1)))] [] (.d (.bool (rsM.may x.p (IntKind.i64.wrap (d - 1))))) [] := Rs_May_calls B x.p _ _ hp ⟨zp, lp, rfl, r_p⟩ hw.1 hw.2
 have c_t := k'1j B x.sch (by omega)
 have c_u := k't B 99 tb3 (tb3_calls B) x.u d (by omega) hd0 hd2
 show k'0 (cx B) 48 [_, _] [] (.d (.bool (trMay rsM smM x d))) []
 unfold trMay
 by_cases h0 : 0 ≤ d
 ·have c_qs := AllQ_Sm B z d (by omega) h0 hd2 r_qs
  rw [k'39 (by omega) (by omega)] at c_m
  have hP : mayP rsM x.has x.p (d - 1) = (if x.has then rsM.may x.p (d - 1) else rsM.eq x.p rsM.no) := rfl
  rw [hP, decide_eq_true h0]
  clear hP
  generalize rsM.may x.p (d - 1) = pm at *
  generalize rsM.eq x.p rsM.no = pe at *
  generalize (x.qs.all fun k => smM.may k (d - 1)) = qm at *
  generalize k'1s tb3 x.u d = ru at *
  refine l_bw Tryz.func48 0 [] ?_
  refine k'1 [] (c_s) rfl rfl rfl ?_
  refine stp ?_
  refine l_join [(1, .d (.int .i64 d)), (2, .ptr 0 0), (5, .d (.bool (if x.has then pm else pe)))] [.mu [.d (.bool x.has), .d (.sl zp lp), .d (.int .u32 x.p.dropped), .d (.str x.p.u), .d (.sl z l), .d (.str x.sch), .d (.str x.u)]] True ?_ (fun _ e => ?_)
  ·cases hh : x.has
   ·refine Y ?_
    exact ⟨trivial, ⟨rfl, rfl, rfl, trivial⟩, rfl⟩
   refine Y ?_
   rw [k'39 (by omega) (by omega)]
   refine l_cw [] (c_m) rfl rfl rfl ?_
   exact ⟨trivial, ⟨rfl, rfl, rfl, trivial⟩, rfl⟩
  ·generalize (if x.has then pm else pe) = pb
   refine Y ?_
   rw [show decide (d ≥ 0) = true from decide_eq_true h0]
   refine Y ?_
   cases pb
   ·exact Z
   refine Y ?_
   refine k'1w [] (c_t) rfl rfl rfl rfl rfl ?_
   cases txt x.sch
   ·exact Z
   refine Y ?_
   refine k'1w [] (c_qs) rfl rfl rfl rfl rfl ?_
   cases qm
   ·exact Z
   refine Y ?_
   refine k'8 [] (c_u) rfl rfl rfl rfl rfl ?_
   exact Z
 ·rw [decide_eq_false h0]
  simp only [Bool.false_and]
  generalize rsM.may x.p (IntKind.i64.wrap (d - 1)) = pm at *
  generalize rsM.eq x.p rsM.no = pe at *
  refine l_bw Tryz.func48 0 [] ?_
  refine l_cw [] (c_s) rfl rfl rfl ?_
  cases hh : x.has
  ·refine Y ?_
   rw [show decide (d ≥ 0) = false from decide_eq_false h0]
   exact Z
  refine Y ?_
  refine l_cw [] (c_m) rfl rfl rfl ?_
  rw [show decide (d ≥ 0) = false from decide_eq_false h0]
  exact Z
theorem All_Rm_calls : AllP B 47 RmSh := All_of B (All1_mk B Tryz.func94) (k'2m B Tryz.func139) (Cont_mk B Tryz.func93) (Allc_mk B Tryz.func47)
theorem PartsQ_Sm : k'3o B 129 130 Sm.R smM.sz smM.wf smM.may smM.mar := Parts_Sm_R B
theorem Rm_write_calls (x : Rm) (xa : D) (d : Int) (hbig : rmM.sz x < big) (hwf : rmM.wf x) (hx : Rm.R x xa) (hd2 : d < 9223372036854775808) (hm : rmM.may x d = true) : k'0 (cx B) 80 [.d xa, .d (.int .i64 d)] [] (.tup [sT (rmM.mar x), .d .nili]) [] := by
 have hlen := rmM.len x
 have hlen : (rmM.mar x).length < big := by omega
 obtain ⟨zp, lp, z, l, rfl, r_p, r_qs⟩ := hx
 have hp : Rs.sz x.p < big := by
  change 300 + Rs.sz x.p + _ + _ + _ < big at hbig
  omega
 change trSz rsM smM x < big at hbig
 unfold trSz at hbig
 change trMay rsM smM x d = true at hm
 unfold trMay at hm
 simp only [Bool.and_eq_true, decide_eq_true_eq] at hm
 obtain ⟨⟨⟨⟨hd, m_p⟩, m_sch⟩, m_qs⟩, hu⟩ := hm
 obtain ⟨w_p, w_qs⟩ := hwf
 change (trMar rsM smM x).length < big at hlen
 show k'0 (cx B) 80 [_, _] [] (.tup [sT (trMar rsM smM x), .d .nili]) []
 unfold trMar trB pV at hlen ⊢
 cases hh : x.has
 ·rw [hh] at hlen
  simp only [Bool.false_eq_true, if_false, List.nil_append] at hlen ⊢
  obtain ⟨a1, ha1, c1⟩ := PartsQ_Sm B 2 (by omega) (by omega) z d (by omega) w_qs m_qs hd hd2 r_qs (.nw 71 2) [] k'22 (by simp only [List.length_append, List.length_nil] at hlen ⊢; omega)
  obtain ⟨a2, ha2, c2⟩ := k'2g B 3 x.sch (by omega) (by omega) a1 ([] ++ psV 2 (x.qs.map smM.mar)) ha1 (by simp only [List.length_append, List.length_nil] at hlen ⊢; omega)
  rw [List.nil_append] at c1 c2
  obtain ⟨cu, cs⟩ := k'26 B (s := x.u) ha2 (l := psV 2 (x.qs.map smM.mar) ++ txV 3 x.sch) (by simp only [List.length_append] at hlen ⊢; omega)
  generalize psV 2 (x.qs.map smM.mar) ++ txV 3 x.sch = o2 at c2 cu cs ⊢
  generalize psV 2 (x.qs.map smM.mar) = o1 at c1 c2
  refine l_bw Tryz.func80 0 [] ?_
  refine l_wr [1] (c1) k'22 ha1 ?_
  refine l_wr [1] (c2) ha1 ha2 ?_
  refine l_wr [1] (cu) ha2 (.inl rfl) ?_
  refine k'1g [1] (cs) rfl rfl rfl rfl rfl rfl rfl (by decide) (by simp [k'5 (.inl rfl)]) rfl rfl rfl rfl ?_
  exact Z
 have cm := Rs_Marshal_calls B x.p _ (d - 1) hp w_p ⟨zp, lp, rfl, r_p⟩ (by omega) (by omega)
 rw [hh] at m_p hlen
 rw [if_pos (show Rs.may x.p (d - 1) = true from m_p)] at cm
 simp only [if_true] at hlen ⊢
 have e : rsM.mar x.p = Rs.mar x.p := rfl
 rw [e] at hlen ⊢
 obtain ⟨a0, ha0, c0⟩ := k'56 B 1 (Rs.mar x.p) (by omega) (by omega) (.nw 71 2) [] k'22 (by simp only [List.length_append, List.length_nil] at hlen ⊢; omega)
 rw [List.nil_append] at c0
 obtain ⟨a1, ha1, c1⟩ := PartsQ_Sm B 2 (by omega) (by omega) z d (by omega) w_qs m_qs hd hd2 r_qs a0 (paV 1 (Rs.mar x.p)) ha0 (by simp only [List.length_append] at hlen ⊢; omega)
 obtain ⟨a2, ha2, c2⟩ := k'2g B 3 x.sch (by omega) (by omega) a1 (paV 1 (Rs.mar x.p) ++ psV 2 (x.qs.map smM.mar)) ha1 (by simp only [List.length_append] at hlen ⊢; omega)
 obtain ⟨cu, cs⟩ := k'26 B (s := x.u) ha2 (l := paV 1 (Rs.mar x.p) ++ psV 2 (x.qs.map smM.mar) ++ txV 3 x.sch) (by simp only [List.length_append] at hlen ⊢; omega)
 generalize paV 1 (Rs.mar x.p) ++ psV 2 (x.qs.map smM.mar) ++ txV 3 x.sch = o2 at c2 cu cs ⊢
 generalize paV 1 (Rs.mar x.p) ++ psV 2 (x.qs.map smM.mar) = o1 at c1 c2
 generalize paV 1 (Rs.mar x.p) = o0 at c0 c1
 refine l_bw Tryz.func80 0 [] ?_
 rw [k'39 (by omega) (by omega)]
 refine l_cw [] (cm) rfl rfl rfl ?_
 refine l_wr [1] (c0) k'22 ha0 ?_
 refine l_wr [1] (c1) ha0 ha1 ?_
 refine l_wr [1] (c2) ha1 ha2 ?_
 refine l_wr [1] (cu) ha2 (.inl rfl) ?_
 refine k'1g [1] (cs) rfl rfl rfl rfl rfl rfl rfl (by decide) (by simp [k'5 (.inl rfl)]) rfl rfl rfl rfl ?_
 exact Z
theorem Parts_Rm_wr : PartsP B 79 RmSh := k'3j B Tryz.func79
theorem Parts_Rm_R : k'3o B 79 80 Rm.R rmM.sz rmM.wf rmM.may rmM.mar := Parts_R0 B (Parts_Rm_wr B) Rm.R_sh fun v x d a b c _ e h => Rm_write_calls B v x d a b c e h
theorem Part_Rs : PartC B 112 Rs.d (noRs) := Part_mk B Tryz.func112 (part_Rs_calls B)
theorem Rm_read (hB : BOk B) (s : List UInt8) (d : Int) (hl : s.length < big) (hd1 : -9223372036854775808 ≤ d) (hd2 : d < 9223372036854775808) : RdAt B 65 [] Rm.d id (rmM.ok s d) s d := by
 have h1 := k'o B hB 99 tb3 (tb3_calls B) s d hl hd1 hd2
 have hk : LOk (knB tb3 s d) := k'e tb3 s d hl
 have hm := k'1p hk
 obtain ⟨vs_qs, e1, c_qs, t1⟩ := List_Sm_tells B hB (fun s => smM.ok s (d - 1)) id smM.no 110 [] (k'd s d) (unB tb3 s d) d s.length (knB tb3 s d) 2 hk (fun h => by have := k'1u h; omega) hd2 (fun x hx hn => Sm_read B hB x.s (d - 1) (lok_s hk hx) (by have := k'2e hx; omega) (by omega))
 obtain ⟨vs_t, e2, c_t, t2, -⟩ := k'1t B hB e1 (unB tb3 s d) d s.length (knB tb3 s d) 3 hk
 obtain ⟨⟨ph, pv⟩, e3, c_p, t3⟩ := (Part_Rs B).tells B hB (fun s => rsM.ok s (d - 1)) id noRs rfl 113 [] e2 (unB tb3 s d) d s.length (knB tb3 s d) 1 hk (fun h => by have := k'1u h; omega) hd2 (fun h => (Rs_read B hB _ (d - 1) (k'50 hk 1) (by have := k'1u h; omega) (by omega)).1.at)
 have hein : ∀ x, e3 = some x → EIn s.length x := t3.ein (t2.ein (t1.ein (fun x hx => k'n hx)))
 have main : k'0 (cx B) 65 [sT s, .d (.int .i64 d)] [] (.tup [.d (Rm.d ⟨ph, pv, vs_qs, vs_t, unB tb3 s d⟩), .d (eD e3)]) [] := by
  unfold Rm.d
  clear hein t1 t2 t3
  unfold Rs.d at c_p
  refine l_bw Tryz.func65 0 [] ?_
  refine l_cw [] (h1) rfl rfl rfl ?_
  refine k'3q (i0 := 9) (z := 10) (t0 := 7) rfl (by decide) rfl rfl rfl rfl rfl rfl rfl rfl rfl rfl ?_
  refine Y ?_
  refine x_cw [1] (c_qs) rfl rfl rfl ?_
  refine x_cw [1] (c_t) rfl rfl rfl ?_
  refine k'1 [1] (c_p) rfl rfl rfl ?_
  exact Z
 have hf := tr_fin (a := rsM) (b := smM) t1 t2 t3
 unfold RdAt
 rw [show rmM.ok s d = trOk rsM smM s d from rfl]
 cases ho : trOk rsM smM s d with
 | some x =>
  rw [ho] at hf
  obtain ⟨h3, h4⟩ := hf
  subst h3
  subst h4
  exact main
 | none =>
  rw [ho] at hf
  obtain ⟨er, h3⟩ := hf
  subst h3
  exact ⟨_, er, hein er rfl, main⟩
theorem Rm_fits (l : List Rm) : ∀ a ∈ l.map Rm.d, a.fits 7 = true := by
 intro a ha
 obtain ⟨c, -, rfl⟩ := List.mem_map.1 ha
 rfl
theorem part_Rm_calls : partP B 108 Rm.d := k'2s B Tryz.func108
theorem List_Rm_calls : ListP B 64 Rm.d := List_S B (fun x => Rm_fits [x]) (part_Rm_calls B) (k'4u B Tryz.func64)
theorem List_Rm_tells : ListT B 64 Rm.d := k'1r B (List_Rm_calls B)
