/- Metrics: read, with more behind; read, and called so. -/
import Derived.Test.YtidcjbkenpgnoaaGreatDoorMU
import Derived.Test.YtidcjbkenpgnoaaGreatDoorBW
set_option linter.unusedSimpArgs false
set_option linter.unusedVariables false
set_option maxRecDepth 100000
namespace Go.Proofs.YtidcjbkenpgnoaaGreatDoor
open Go Go.Abs
variable (B : Fr)
section
def Me.setU (x : Me) (u : List UInt8) : Me := { x with u := u }
variable {s w t : List UInt8} {d : Int} {x y : Me}
def Me.points (x : Me) : Nat := x.dat.nbs.length + x.dat.his.length + x.dat.ehs.length + x.dat.sus.length
theorem In.cnt (x : In) : x.nbs.length + x.his.length + x.ehs.length + x.sus.length ≤ x.sz := by
 have q0 := sum_ge (sz := Nb.sz) (fun x => by unfold Nb.sz; omega) x.nbs
 have q1 := sum_ge (sz := Hi.sz) (fun x => by unfold Hi.sz; omega) x.his
 have q2 := sum_ge (sz := Eh.sz) (fun x => by unfold Eh.sz; omega) x.ehs
 have q3 := sum_ge (sz := Su.sz) (fun x => by unfold Su.sz; omega) x.sus
 unfold In.sz; omega
theorem Points_calls (x : Me) (xa : D) (hb : x.points < 4611686018427387904) (hx : x.R xa) : k'0 (cx B) 59 [.d xa] [] (iT x.points) [] := by
 obtain ⟨z_nbs, l_nbs, z_his, l_his, z_ehs, l_ehs, z_sus, l_sus, z_mets, l_mets, rfl, r_nbs, r_his, r_ehs, r_sus, r_mets⟩ := hx
 unfold Me.points at hb ⊢
 refine l_bw Tryz.func59 0 [] ?_
 rw [r_nbs.1, r_his.1, r_ehs.1, r_sus.1]
 rw [show IntKind.i64.wrap ((x.dat.nbs.length : Int) + (x.dat.his.length : Int)) = ((x.dat.nbs.length + x.dat.his.length : Nat) : Int) by rw [k'39 (by omega) (by omega)]; omega]
 rw [show IntKind.i64.wrap (((x.dat.nbs.length + x.dat.his.length : Nat) : Int) + (x.dat.ehs.length : Int)) = ((x.dat.nbs.length + x.dat.his.length + x.dat.ehs.length : Nat) : Int) by rw [k'39 (by omega) (by omega)]; omega]
 rw [show IntKind.i64.wrap (((x.dat.nbs.length + x.dat.his.length + x.dat.ehs.length : Nat) : Int) + (x.dat.sus.length : Int)) = ((x.dat.nbs.length + x.dat.his.length + x.dat.ehs.length + x.dat.sus.length : Nat) : Int) by rw [k'39 (by omega) (by omega)]; omega]
 exact Z
end
section
def Bt.d (x : Bt) : D := .agg [slD (x.rs.map Rm.d), .str x.u]
def Bt.R (x : Bt) (a : D) : Prop := ∃ (z : Bool) (l : List D), a = .agg [.sl z l, .str x.u] ∧ RsOf Rm.R x.rs l
theorem Bt.d_R (x : Bt) : x.R x.d := ⟨_, _, rfl, RsOf.map Rm.d_R _⟩
def noBt : Bt := ⟨[], []⟩
def tooB (s : List UInt8) : Prop := s.length > 262144
instance (s : List UInt8) : Decidable (tooB s) := inferInstanceAs (Decidable (s.length > 262144))
theorem k'51 (s : List UInt8) : k'0 (cx B) 36 [sT s] [] (.d (if tooB s then (Er.code 7).d else .nili)) [] := by
 by_cases h : tooB s
 ·rw [if_pos h]
  unfold tooB at h
  refine l_bw Tryz.func36 0 [] ?_
  rw [show decide ((s.length : Int) > 262144) = true from decide_eq_true (by omega)]
  exact Z
 ·rw [if_neg h]
  unfold tooB at h
  refine l_bw Tryz.func36 0 [] ?_
  rw [show decide ((s.length : Int) > 262144) = false from decide_eq_false (by omega)]
  exact Z
theorem EqL_Rm_R : EqRP B 73 74 Rm.R rmM.sz (eqsL rmM.eq) := EqF_R B (EqF_Rm_calls B) Rm.R_sh Rm.sz1 (eqsL_by rmM.eq) (Rm_Same_calls B)
theorem Bt_Same_calls (x y : Bt) (xa ya : D) (hbig : x.sz < big) (hx : x.R xa) (hy : y.R ya) : k'0 (cx B) 33 [.d xa, .d ya] [] (.d (.bool (x.eq y))) [] := by
 obtain ⟨z, l, rfl, r_rs⟩ := hx
 obtain ⟨w, m, rfl, s_rs⟩ := hy
 unfold Bt.sz at hbig
 have c_rs := EqL_Rm_R B z w (by omega) r_rs s_rs
 unfold Bt.eq
 generalize eqsL rmM.eq x.rs y.rs = eq at *
 refine l_bw Tryz.func33 0 [] ?_
 cases e0 : (x.u == y.u)
 ·exact Z
 refine Y ?_
 refine k'8 [] (c_rs) rfl rfl rfl rfl rfl ?_
 exact Z
theorem AllQ_Rm : AllRP B 47 48 Rm.R rmM.sz rmM.may := All_R B (All_Rm_calls B) Rm.R_sh Rm.sz1 (Rm_May_calls B)
theorem Bt_May_calls (x : Bt) (xa : D) (hbig : x.sz < big) (hx : x.R xa) : k'0 (cx B) 17 [.d xa] [] (.d (.bool x.may)) [] := by
 obtain ⟨z, l, rfl, r_rs⟩ := hx
 unfold Bt.sz at hbig
 have c_rs : k'0 (cx B) 47 [_, _, _] [] (.d (.bool (x.rs.all fun k => rmM.may k 31))) [] := AllQ_Rm B z 32 (by omega) (by omega) (by omega) r_rs
 have c_u := k't B 50 tb1 (tb1_calls B) x.u 32 (by omega) (by omega) (by omega)
 unfold Bt.may
 generalize (x.rs.all fun k => rmM.may k 31) = qm at *
 generalize k'1s tb1 x.u 32 = ru at *
 refine l_bw Tryz.func17 0 [] ?_
 refine l_cw [] (c_rs) rfl rfl rfl ?_
 cases qm
 ·exact Z
 refine Y ?_
 refine k'8 [] (c_u) rfl rfl rfl rfl rfl ?_
 exact Z
theorem Bt_write_calls (x : Bt) (xa : D) (hbig : x.sz < big) (hwf : x.wf) (hx : x.R xa) (hm : x.may = true) : k'0 (cx B) 35 [.d xa] [] (sT x.mar) [] := by
 have hlen := x.mar_len
 have hlen : x.mar.length < big := by omega
 obtain ⟨z, l, rfl, r_rs⟩ := hx
 unfold Bt.sz at hbig
 unfold Bt.may at hm
 simp only [Bool.and_eq_true] at hm
 unfold Bt.mar Bt.hb at hlen ⊢
 obtain ⟨a1, ha1, c1⟩ := Parts_Rm_R B 1 (by omega) (by omega) z 32 (by omega) hwf hm.1 (by omega) (by omega) r_rs (.nw 71 2) [] k'22 (by simp only [List.length_append, List.length_nil] at hlen ⊢; omega)
 rw [List.nil_append] at c1
 obtain ⟨cu, cs⟩ := k'26 B (s := x.u) ha1 (l := psV 1 (x.rs.map rmM.mar)) (by simp only [List.length_append] at hlen ⊢; omega)
 generalize psV 1 (x.rs.map rmM.mar) = o1 at c1 cu cs ⊢
 refine l_bw Tryz.func35 0 [] ?_
 refine l_wr [1] (c1) k'22 ha1 ?_
 refine l_wr [1] (cu) ha1 (.inl rfl) ?_
 refine k'1g [1] (cs) rfl rfl rfl rfl rfl rfl rfl (by decide) (by simp [k'5 (.inl rfl)]) rfl rfl rfl rfl ?_
 exact Z
theorem k'4w (x : Bt) (xa : D) (hbig : x.sz < big) (hwf : x.wf) (hx : x.R xa) : k'0 (cx B) 12 [.d xa] [] (if x.may then (if tooB x.mar then .tup [sT [], .d (Er.code 7).d] else .tup [sT x.mar, .d .nili]) else .tup [sT [], .d (Er.code 8).d]) [] := by
 have cm := Bt_May_calls B x xa hbig hx
 have cw := fun h => Bt_write_calls B x xa hbig hwf hx h
 have cb := k'51 B x.mar
 obtain ⟨z, l, rfl, r_rs⟩ := hx
 cases hm : x.may
 ·rw [hm] at cm
  refine l_bw Tryz.func12 0 [] ?_
  refine k'1 [] (cm) rfl rfl rfl ?_
  exact Z
 replace cw := cw hm
 rw [hm] at cm
 simp only [if_true]
 generalize x.mar = s at *
 by_cases ht : tooB s
 ·rw [if_pos ht] at cb ⊢
  refine l_bw Tryz.func12 0 [] ?_
  refine l_cw [] (cm) rfl rfl rfl ?_
  refine l_cw [] (cw) rfl rfl rfl ?_
  refine k'1 [] (cb) rfl rfl rfl ?_
  exact Z
 ·rw [if_neg ht] at cb ⊢
  refine l_bw Tryz.func12 0 [] ?_
  refine l_cw [] (cm) rfl rfl rfl ?_
  refine l_cw [] (cw) rfl rfl rfl ?_
  refine k'1 [] (cb) rfl rfl rfl ?_
  exact Z
theorem okBt_rd (s : List UInt8) : okBt s = (match k'd s 32, k'3 (fun s => rmM.ok s (32 - 1)) 1 (knB tb1 s 32) with
 | none, some rs => some ⟨rs, unB tb1 s 32⟩
 | _, _ => none) := by
 unfold okBt
 rw [k'4a]
 cases k'd s 32 with
 | some e => rfl
 | none =>
  unfold tellBt
  simp only
  cases k'3 (fun s => rmM.ok s (32 - 1)) 1 (knB tb1 s 32) <;> rfl
def rdBt (s : List UInt8) : Option Bt := if tooB s then none else okBt s
theorem Bt_read (hB : BOk B) (s : List UInt8) (hl : s.length < big) :
  match rdBt s with
  | some x => k'0 (cx B) 26 [sT s] [] (.tup [.d x.d, .d .nili]) []
  | none => ∃ e : Er, (if tooB s then e = .loc 262144 (.code 7) else EIn s.length e) ∧ k'0 (cx B) 26 [sT s] [] (.tup [.d noBt.d, .d e.d]) [] := by
 have cb := k'51 B s
 by_cases ht : tooB s
 ·rw [show rdBt s = none from if_pos ht]
  rw [if_pos ht] at cb
  refine ⟨.loc 262144 (.code 7), by rw [if_pos ht], ?_⟩
  have ca := At_calls B 262144 (some (.code 7))
  refine l_bw Tryz.func26 0 [] ?_
  refine l_cw [] (cb) rfl rfl rfl ?_
  refine k'1 [] (ca) rfl rfl rfl ?_
  exact Z
 rw [show rdBt s = okBt s from if_neg ht]
 rw [if_neg ht] at cb
 have h1 := k'o B hB 50 tb1 (tb1_calls B) s 32 hl (by omega) (by omega)
 have hk : LOk (knB tb1 s 32) := k'e tb1 s 32 hl
 have hm := k'1p hk
 obtain ⟨vs, e1, c_rs, t1⟩ := List_Rm_tells B hB (fun s => rmM.ok s (32 - 1)) id rmM.no 65 [] (k'd s 32) (unB tb1 s 32) 32 s.length (knB tb1 s 32) 1 hk (fun h => by omega) (by omega) (fun x hx hn => Rm_read B hB x.s (32 - 1) (lok_s hk hx) (by omega) (by omega))
 have hein : ∀ x, e1 = some x → EIn s.length x := t1.ein (fun x hx => k'n hx)
 have main : k'0 (cx B) 26 [sT s] [] (.tup [.d (orD e1 (Bt.d ⟨vs, unB tb1 s 32⟩) noBt.d), .d (eD e1)]) [] := by
  unfold Bt.d
  clear hein t1
  refine l_bw Tryz.func26 0 [] ?_
  refine l_cw [] (cb) rfl rfl rfl ?_
  refine l_cw [] (h1) rfl rfl rfl ?_
  refine k'3q (i0 := 7) (z := 8) (t0 := 6) rfl (by decide) rfl rfl rfl rfl rfl rfl rfl rfl rfl rfl ?_
  refine Y ?_
  refine x_cw [1] (c_rs) rfl rfl rfl ?_
  cases e1 with
  | none =>
   exact Z
  | some er =>
   cases er <;> (
   exact Z)
 rw [okBt_rd]
 cases e1 with
 | none =>
  obtain ⟨k0, a1, g1, v1⟩ := t1.ok
  rw [k0, g1]
  rw [List.map_id] at v1
  subst v1
  exact main
 | some er =>
  have hno : (match k'd s 32, k'3 (fun s => rmM.ok s (32 - 1)) 1 (knB tb1 s 32) with
   | none, some rs => some (⟨rs, unB tb1 s 32⟩ : Bt)
   | _, _ => none) = none := by
   cases hr : k'd s 32 with
   | some x => rfl
   | none =>
    rw [hr] at t1
    cases h1 : k'3 (fun s => rmM.ok s (32 - 1)) 1 (knB tb1 s 32) with
    | none => rfl
    | some a1 =>
     rw [h1] at t1
     have := t1.get.2
     simp at this
  rw [hno]
  exact ⟨er, by rw [if_neg ht]; exact hein er rfl, main⟩
theorem Bt_some (hB : BOk B) {s : List UInt8} {x : Bt} (hl : s.length < big) (h : rdBt s = some x) : k'0 (cx B) 26 [sT s] [] (.tup [.d x.d, .d .nili]) [] := by
 have := Bt_read B hB s hl
 rw [h] at this; exact this
theorem Bt_noneE (hB : BOk B) {s : List UInt8} (hl : s.length < big) (h : rdBt s = none) : ∃ e : Er, (if tooB s then e = .loc 262144 (.code 7) else EIn s.length e) ∧ k'0 (cx B) 26 [sT s] [] (.tup [.d noBt.d, .d e.d]) [] := by
 have := Bt_read B hB s hl
 rw [h] at this; exact this
theorem Bt_none (hB : BOk B) {s : List UInt8} (hl : s.length < big) (h : rdBt s = none) : ∃ T x, k'0 (cx B) 26 [sT s] [] (.tup [.d noBt.d, .d (.iface T x)]) [] := by
 obtain ⟨e, -, h1⟩ := Bt_noneE B hB hl h
 obtain ⟨T, x, hx⟩ := er_iface e
 rw [hx] at h1
 exact ⟨T, x, h1⟩
theorem Bt_any (hB : BOk B) {s : List UInt8} (hl : s.length < big) : ∃ (b : Bt) (y : D), k'0 (cx B) 26 [sT s] [] (.tup [.d b.d, .d y]) [] := by
 cases h : rdBt s with
 | some b => exact ⟨_, _, Bt_some B hB hl h⟩
 | none => obtain ⟨T, x, h⟩ := Bt_none B hB hl h; exact ⟨_, _, h⟩
/-! Points. -/
theorem sums_le {α : Type} {f g : α → Nat} (h : ∀ x, f x ≤ g x) (l : List α) : (l.map f).sum ≤ (l.map g).sum := by
 induction l with
 | nil => simp
 | cons x l ih => have := h x; rw [List.map_cons, List.map_cons, List.sum_cons, List.sum_cons]; omega
theorem sumTake {α : Type} (f : α → Nat) {l : List α} {i : Nat} {x : α} (h : l[i]? = some x) : ((l.take (i + 1)).map f).sum = ((l.take i).map f).sum + f x ∧ ((l.take i).map f).sum + f x ≤ (l.map f).sum := by
 have e : ((l.take (i + 1)).map f).sum = ((l.take i).map f).sum + f x := by rw [List.take_add_one, h]; simp
 refine ⟨e, ?_⟩
 rw [← e]
 have : l.map f = (l.take (i + 1)).map f ++ (l.drop (i + 1)).map f := by rw [← List.map_append, List.take_append_drop]
 rw [this, List.sum_append]
 omega
def Sm.sum (g : Me → Nat) (x : Sm) : Nat := (x.qs.map g).sum
def Rm.sum (g : Me → Nat) (x : Rm) : Nat := (x.qs.map (Sm.sum g)).sum
def Bt.sum (g : Me → Nat) (x : Bt) : Nat := (x.rs.map (Rm.sum g)).sum
theorem Sm.sum_le {g : Me → Nat} (h : ∀ m : Me, g m ≤ m.sz) (x : Sm) : Sm.sum g x ≤ smM.sz x := by
 have := sums_le h x.qs
 show (x.qs.map g).sum ≤ trSz scM meM x
 unfold trSz
 change _ ≤ 300 + _ + (x.qs.map Me.sz).sum + _ + _
 omega
theorem Rm.sum_le {g : Me → Nat} (h : ∀ m : Me, g m ≤ m.sz) (x : Rm) : Rm.sum g x ≤ rmM.sz x := by
 have := sums_le (Sm.sum_le h) x.qs
 show (x.qs.map (Sm.sum g)).sum ≤ trSz rsM smM x
 unfold trSz
 omega
set_option maxHeartbeats 4000000 in
theorem total_calls (f : Nat) (g : Me → Nat) (hg : ∀ (m : Me) (ma : D), m.sz < big → m.R ma → k'0 (cx B) f [.d ma] [] (iT (g m)) []) (hs : ∀ m : Me, g m ≤ m.sz) (x : Bt) (xa : D) (hbig : x.sz < big) (hx : x.R xa) : k'0 (cx B) 58 [.d xa, .d (.fn f [])] [] (iT (x.sum g)) [] := by
 obtain ⟨z, l, rfl, r1⟩ := hx
 unfold Bt.sz big at hbig
 have hl := r1.1
 have hT := sums_le (Rm.sum_le hs) x.rs
 have hla := sum_ge Rm.sz1 x.rs
 unfold Bt.sum
 refine l_bw Tryz.func58 0 [] ?_
 refine k'14 (fun i : Nat => l.length - i) (fun i => [(1, .d (.fn f [])), (5, iT (((x.rs.take i).map (Rm.sum g)).sum : Nat)), (13, .d (.sl z l)), (14, iT l.length), (15, iT i)]) (fun _ => [.mu [.d (.sl z l), .d (.str x.u)]]) (fun i => i ≤ l.length) 0 (by omega) ⟨rfl, rfl, rfl, rfl, rfl, trivial⟩ rfl 1 rfl (fun _ => rfl) (fun _ => rfl) (fun _ => rfl) ?_
 intro i i1
 refine Y ?_
 refine k'1n rfl (fun hd => ?_) (fun hd => ?_)
 ·have hlt : i < l.length := by have := of_decide_eq_true hd; omega
  obtain ⟨ya, hyi⟩ : ∃ y, l[i]? = some y := ⟨_, List.getElem?_eq_getElem hlt⟩
  obtain ⟨v, hv, hvr⟩ := r1.at hyi
  obtain ⟨e1, e2⟩ := sumTake (Rm.sum g) hv
  have b1 := k'1h (sz := rmM.sz) (List.mem_of_getElem? hv)
  generalize ((x.rs.take i).map (Rm.sum g)).sum = acc at *
  obtain ⟨zp, lp, z2, l2, rfl, -, r2⟩ := hvr
  have hl2 := r2.1
  have hT2 := sums_le (Sm.sum_le hs) v.qs
  have hla2 := sum_ge Sm.sz1 v.qs
  change trSz rsM smM v ≤ _ at b1
  unfold trSz at b1
  rw [show Rm.sum g v = (v.qs.map (Sm.sum g)).sum from rfl] at e1 e2
  refine Y ?_
  refine k'4 (.indexAddr (k := .i64) (n := i) (es := l) rfl rfl rfl rfl (.inl ⟨_, rfl⟩) rfl (by omega) (by simpa using hyi) rfl (by decide)) rfl rfl ?_
  refine Y ?_
  refine k'14 (fun j : Nat => l2.length - j) (fun j => [(1, .d (.fn f [])), (5, iT (acc + ((v.qs.take j).map (Sm.sum g)).sum : Nat)), (13, .d (.sl z l)), (14, iT l.length), (15, iT i), (20, .d (.sl z2 l2)), (21, iT l2.length), (22, iT j)]) (fun _ => [.mu [.d (.sl z l), .d (.str x.u)], .mu [.d (.bool v.has), .d (.sl zp lp), .d (.int .u32 v.p.dropped), .d (.str v.p.u), .d (.sl z2 l2), .d (.str v.sch), .d (.str v.u)]]) (fun j => j ≤ l2.length) 0 (by omega) ⟨rfl, rfl, rfl, rfl, rfl, rfl, rfl, rfl, trivial⟩ rfl 2 rfl (fun _ => rfl) (fun _ => rfl) (fun _ => rfl) ?_
  intro j j1
  refine Y ?_
  refine k'1n rfl (fun hd2 => ?_) (fun hd2 => ?_)
  ·have hlt2 : j < l2.length := by have := of_decide_eq_true hd2; omega
   obtain ⟨ya, hyj⟩ : ∃ y, l2[j]? = some y := ⟨_, List.getElem?_eq_getElem hlt2⟩
   obtain ⟨w, hw, hwr⟩ := r2.at hyj
   obtain ⟨e3, e4⟩ := sumTake (Sm.sum g) hw
   have b2 := k'1h (sz := smM.sz) (List.mem_of_getElem? hw)
   generalize ((v.qs.take j).map (Sm.sum g)).sum = acc2 at *
   obtain ⟨zq, lq, z3, l3, rfl, -, r3⟩ := hwr
   have hl3 := r3.1
   have hT3 := sums_le hs w.qs
   have hla3 := sum_ge (sz := Me.sz) (fun x => by unfold Me.sz; omega) w.qs
   change trSz scM meM w ≤ _ at b2
   unfold trSz at b2
   change 300 + _ + (w.qs.map Me.sz).sum + _ + _ ≤ _ at b2
   rw [show Sm.sum g w = (w.qs.map g).sum from rfl] at e3 e4
   refine Y ?_
   refine k'4 (.indexAddr (k := .i64) (n := j) (es := l2) rfl rfl rfl rfl (.inl ⟨_, rfl⟩) rfl (by omega) (by simpa using hyj) rfl (by decide)) rfl rfl ?_
   refine Y ?_
   refine k'14 (fun k : Nat => l3.length - k) (fun k => [(1, .d (.fn f [])), (5, iT (acc + (acc2 + ((w.qs.take k).map g).sum) : Nat)), (13, .d (.sl z l)), (14, iT l.length), (15, iT i), (20, .d (.sl z2 l2)), (21, iT l2.length), (22, iT j), (27, .d (.sl z3 l3)), (28, iT l3.length), (29, iT k)]) (fun _ => [.mu [.d (.sl z l), .d (.str x.u)], .mu [.d (.bool v.has), .d (.sl zp lp), .d (.int .u32 v.p.dropped), .d (.str v.p.u), .d (.sl z2 l2), .d (.str v.sch), .d (.str v.u)], .mu [.d (.bool w.has), .d (.str w.p.name), .d (.str w.p.version), .d (.sl zq lq), .d (.int .u32 w.p.dropped), .d (.str w.p.u), .d (.sl z3 l3), .d (.str w.sch), .d (.str w.u)]]) (fun k => k ≤ l3.length) 0 (by omega) ⟨rfl, rfl, rfl, rfl, rfl, rfl, rfl, rfl, rfl, rfl, rfl, trivial⟩ rfl 3 rfl (fun _ => rfl) (fun _ => rfl) (fun _ => rfl) ?_
   intro k k1
   refine Y ?_
   refine k'1n rfl (fun hd3 => ?_) (fun hd3 => ?_)
   ·have hlt3 : k < l3.length := by have := of_decide_eq_true hd3; omega
    obtain ⟨ma, hmk⟩ : ∃ y, l3[k]? = some y := ⟨_, List.getElem?_eq_getElem hlt3⟩
    obtain ⟨m, hm, hmr⟩ := r3.at hmk
    obtain ⟨e5, e6⟩ := sumTake g hm
    have b3 := k'1h (sz := Me.sz) (List.mem_of_getElem? hm)
    have hc := hg m ma (by unfold big; omega) hmr
    generalize ((w.qs.take k).map g).sum = acc3 at *
    obtain ⟨a0, a1, a2, a3, a4, a5, a6, a7, a8, a9, a10, a11, a12, a13, a14, a15, a16, a17, rfl⟩ := Me.R_sh hmr
    refine Y ?_
    refine k'4 (.indexAddr (k := .i64) (n := k) (es := l3) rfl rfl rfl rfl (.inl ⟨_, rfl⟩) rfl (by omega) (by simpa using hmk) rfl (by decide)) rfl rfl ?_
    refine Y ?_
    refine l_cw [] (hc) rfl rfl rfl ?_
    rw [show IntKind.i64.wrap (((acc + (acc2 + acc3) : Nat) : Int) + (g m : Int)) = ((acc + (acc2 + (acc3 + g m)) : Nat) : Int) by rw [k'39 (by omega) (by omega)]; omega, show IntKind.i64.wrap ((k : Int) + 1) = ((k + 1 : Nat) : Int) by rw [k'39 (by omega) (by omega)]; omega]
    exact ⟨k + 1, by omega, by omega, ⟨rfl, by rw [e5]; rfl, rfl, rfl, rfl, rfl, rfl, rfl, rfl, rfl, rfl, trivial⟩, rfl, k'28 rfl⟩
   ·have hge : k = w.qs.length := by have := of_decide_eq_false hd3; omega
    subst hge
    rw [List.take_length]
    refine Y ?_
    rw [wS j (by omega)]
    exact ⟨j + 1, by omega, by omega, ⟨rfl, by rw [e3]; rfl, rfl, rfl, rfl, rfl, rfl, rfl, trivial⟩, rfl, k'28 rfl⟩
  ·have hge : j = v.qs.length := by have := of_decide_eq_false hd2; omega
   subst hge
   rw [List.take_length]
   refine Y ?_
   rw [wS i (by omega)]
   exact ⟨i + 1, by omega, by omega, ⟨rfl, by rw [e1]; rfl, rfl, rfl, rfl, trivial⟩, rfl, k'28 rfl⟩
 ·have hge : i = x.rs.length := by have := of_decide_eq_false hd; omega
  subst hge
  rw [List.take_length]
  exact Z
theorem Me.points_le (m : Me) : m.points ≤ m.sz := by
 have := In.cnt m.dat
 unfold Me.points Me.sz
 omega
theorem k'5b (x : Bt) (xa : D) (hbig : x.sz < big) (hx : x.R xa) : k'0 (cx B) 22 [.d xa] [] (iT (x.sum Me.points)) [] := by
 have c := total_calls B 59 Me.points (fun m ma h hr => Points_calls B m ma (by have := m.points_le; unfold big at h; omega) hr) Me.points_le x xa hbig hx
 obtain ⟨z, l, rfl, r1⟩ := hx
 refine l_bw Tryz.func22 0 [] ?_
 refine k'1 [] (c) rfl rfl rfl ?_
 exact Z
end
