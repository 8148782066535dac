/- What is not computed but told: a builder's methods, eight bytes of a number. -/
import Derived.Test.YtcfkbpddmdfbaaaGreatDoorIA
import Derived.Test.YtcfkbpddmdfbaaaGreatDoorWR
import Derived.Test.YtcfkbpddmdfbaaaGreatDoorBW
import Derived.KernelRfl
set_option linter.unusedSimpArgs false
set_option linter.unusedVariables false
set_option maxRecDepth 100000
namespace Go.Proofs.YtcfkbpddmdfbaaaGreatDoor
open Go Go.Abs
variable (B : Fr)
section
def unBf : T → Option (List UInt8)
 | .own true [] => some []
 | .buf t (c :: l) => bif Nat.beq t 5 then some (c :: l) else none
 | _ => none
theorem unBf_ok {t : T} {l : List UInt8} (h : unBf t = some l) : t = bT l := by
 unfold unBf at h
 split at h
 ·injection h with h; subst h; rfl
 ·rename_i t c l'
  cases hb : Nat.beq t 5 with
  | false => rw [hb] at h; simp at h
  | true =>
   rw [hb] at h
   simp only [cond_true, Option.some.injEq] at h; subst h
   rw [Nat.eq_of_beq_eq_true hb]; rfl
 ·simp at h
def adBf : T → Bool
 | .me => true
 | .nw t n => (Nat.beq t 69 || Nat.beq t 71) && Nat.beq n 2
 | _ => false
theorem adBf_ok {a : T} (h : adBf a = true) : adOk a := by
 unfold adBf at h
 split at h
 ·exact .inl rfl
 ·simp only [Bool.and_eq_true, Bool.or_eq_true] at h
  obtain ⟨h1 | h1, h2⟩ := h <;> rw [Nat.eq_of_beq_eq_true h1, Nat.eq_of_beq_eq_true h2]
  ·exact .inr (.inl rfl)
  ·exact .inr (.inr rfl)
 ·simp at h
def orB : Cf := fun f args H =>
 bif Nat.beq f 81 then (match args, H with
  | [.ptr 0 0, .d (.str s)], [.mu [a, x]] => (match unBf x with
   | some l => bif adBf a && Nat.ble (l.length + s.length) most then some (.tup [iT s.length, .d .nili], [.mu [.me, bT (l ++ s)]]) else none
   | none => none)
  | _, _ => none)
 else bif Nat.beq f 83 then (match args, H with
  | [.ptr 0 0], [.mu [a, x]] => (match unBf x with
   | some l => bif adBf a && Nat.ble l.length most then some (sT l, [.mu [a, .undef]]) else none
   | none => none)
  | _, _ => none)
 else bif Nat.beq f 446 then (match args, H with
  | [.d (.int .u64 (.ofNat n))], [] => some (sT (le8 n), [])
  | _, _ => none)
 else none
theorem orB_ok : CfOk (cx B) orB := fun f args H r H' h => by
 unfold orB at h
 cases h1 : Nat.beq f 81
 rotate_left
 ·rw [h1] at h; simp only [cond_true] at h
  rw [Nat.eq_of_beq_eq_true h1]
  split at h <;> (try (simp at h; done))
  rename_i s a x
  split at h <;> (try (simp at h; done))
  rename_i l hl
  cases hc : (adBf a && Nat.ble (l.length + s.length) most) with
  | false => rw [hc] at h; simp at h
  | true =>
   rw [hc] at h; simp only [cond_true, Option.some.injEq, Prod.mk.injEq] at h
   obtain ⟨rfl, rfl⟩ := h
   simp only [Bool.and_eq_true] at hc
   rw [unBf_ok hl]
   exact k'1x B a l s (adBf_ok hc.1) (Nat.le_of_ble_eq_true hc.2)
 rw [h1] at h; simp only [cond_false] at h
 cases h2 : Nat.beq f 83
 rotate_left
 ·rw [h2] at h; simp only [cond_true] at h
  rw [Nat.eq_of_beq_eq_true h2]
  split at h <;> (try (simp at h; done))
  rename_i a x
  split at h <;> (try (simp at h; done))
  rename_i l hl
  cases hc : (adBf a && Nat.ble l.length most) with
  | false => rw [hc] at h; simp at h
  | true =>
   rw [hc] at h; simp only [cond_true, Option.some.injEq, Prod.mk.injEq] at h
   obtain ⟨rfl, rfl⟩ := h
   simp only [Bool.and_eq_true] at hc
   rw [unBf_ok hl]
   exact k'2v B a l (adBf_ok hc.1) (Nat.le_of_ble_eq_true hc.2)
 rw [h2] at h; simp only [cond_false] at h
 cases h3 : Nat.beq f 446 with
 | true =>
  rw [h3] at h; simp only [cond_true] at h
  rw [Nat.eq_of_beq_eq_true h3]
  split at h <;> (try (simp at h; done))
  simp only [Option.some.injEq, Prod.mk.injEq] at h
  obtain ⟨rfl, rfl⟩ := h
  exact eight_calls B _
 | false => rw [h3] at h; simp at h
end
section
def Me.setU (x : Me) (u : List UInt8) : Me := { x with u := u }
variable {s w t : List UInt8} {d : Int} {x y : Me}
def Me.points (x : Me) : Nat := x.dat.nbs.length + x.dat.his.length + x.dat.ehs.length + x.dat.sus.length
theorem In.cnt (x : In) : x.nbs.length + x.his.length + x.ehs.length + x.sus.length ≤ x.sz := by
 have q0 := k'22 (sz := Nb.sz) (fun x => by unfold Nb.sz; omega) x.nbs
 have q1 := k'22 (sz := Hi.sz) (fun x => by unfold Hi.sz; omega) x.his
 have q2 := k'22 (sz := Eh.sz) (fun x => by unfold Eh.sz; omega) x.ehs
 have q3 := k'22 (sz := Su.sz) (fun x => by unfold Su.sz; omega) x.sus
 unfold In.sz; omega
theorem Points_calls (x : Me) (xa : D) (hb : x.points < 4611686018427387904) (hx : x.R xa) : k'0 (cx B) 57 [.d xa] [] (iT x.points) [] := by
 obtain ⟨z_nbs, l_nbs, z_his, l_his, z_ehs, l_ehs, z_sus, l_sus, z_mets, l_mets, rfl, r_nbs, r_his, r_ehs, r_sus, r_mets⟩ := hx
 unfold Me.points at hb ⊢
 refine l_bw Tryz.func57 0 [] ?_
 rw [r_nbs.1, r_his.1, r_ehs.1, r_sus.1]
 rw [show IntKind.i64.wrap ((x.dat.nbs.length : Int) + (x.dat.his.length : Int)) = ((x.dat.nbs.length + x.dat.his.length : Nat) : Int) by rw [k'10 (by omega) (by omega)]; omega]
 rw [show IntKind.i64.wrap (((x.dat.nbs.length + x.dat.his.length : Nat) : Int) + (x.dat.ehs.length : Int)) = ((x.dat.nbs.length + x.dat.his.length + x.dat.ehs.length : Nat) : Int) by rw [k'10 (by omega) (by omega)]; omega]
 rw [show IntKind.i64.wrap (((x.dat.nbs.length + x.dat.his.length + x.dat.ehs.length : Nat) : Int) + (x.dat.sus.length : Int)) = ((x.dat.nbs.length + x.dat.his.length + x.dat.ehs.length + x.dat.sus.length : Nat) : Int) by rw [k'10 (by omega) (by omega)]; omega]
 exact Z
end
section
def Bt.d (x : Bt) : D := .agg [slD (x.rs.map Rm.d), .str x.u]
def Bt.R (x : Bt) (a : D) : Prop := ∃ (z : Bool) (l : List D), a = .agg [.sl z l, .str x.u] ∧ RsOf Rm.R x.rs l
theorem Bt.d_R (x : Bt) : x.R x.d := ⟨_, _, rfl, RsOf.map Rm.d_R _⟩
def tooB (s : List UInt8) : Prop := s.length > 262144
instance (s : List UInt8) : Decidable (tooB s) := inferInstanceAs (Decidable (s.length > 262144))
theorem bound_calls (s : List UInt8) : k'0 (cx B) 34 [sT s] [] (.d (if tooB s then (Er.code 7).d else .nili)) [] := by
 by_cases h : tooB s
 ·rw [if_pos h]
  unfold tooB at h
  refine l_bw Tryz.func34 0 [] ?_
  rw [show decide ((s.length : Int) > 262144) = true from decide_eq_true (by omega)]
  exact Z
 ·rw [if_neg h]
  unfold tooB at h
  refine l_bw Tryz.func34 0 [] ?_
  rw [show decide ((s.length : Int) > 262144) = false from decide_eq_false (by omega)]
  exact Z
theorem AllQ_Rm : AllRP B 45 46 Rm.R rmM.sz rmM.may := All_R B (All_Rm_calls B) Rm.R_sh Rm.sz1 (Rm_May_calls B)
theorem Bt_May_calls (x : Bt) (xa : D) (hbig : x.sz < big) (hx : x.R xa) : k'0 (cx B) 15 [.d xa] [] (.d (.bool x.may)) [] := by
 obtain ⟨z, l, rfl, r_rs⟩ := hx
 unfold Bt.sz at hbig
 have c_rs : k'0 (cx B) 45 [_, _, _] [] (.d (.bool (x.rs.all fun k => rmM.may k 31))) [] := AllQ_Rm B z 32 (by omega) (by omega) (by omega) r_rs
 have c_u := k'o B 48 tb1 (tb1_calls B) x.u 32 (by omega) (by omega) (by omega)
 unfold Bt.may
 generalize (x.rs.all fun k => rmM.may k 31) = qm at *
 generalize k'1a tb1 x.u 32 = ru at *
 refine l_bw Tryz.func15 0 [] ?_
 refine l_cw [] (c_rs) rfl rfl rfl ?_
 cases qm
 ·exact Z
 refine Y ?_
 refine k'a [] (c_u) rfl rfl rfl rfl rfl ?_
 exact Z
theorem Bt_write_calls (x : Bt) (xa : D) (hbig : x.sz < big) (hwf : x.wf) (hx : x.R xa) (hm : x.may = true) : k'0 (cx B) 33 [.d xa] [] (sT x.mar) [] := by
 have hlen := x.mar_len
 have hlen : x.mar.length < big := by omega
 obtain ⟨z, l, rfl, r_rs⟩ := hx
 unfold Bt.sz at hbig
 unfold Bt.may at hm
 simp only [Bool.and_eq_true] at hm
 unfold Bt.mar Bt.hb at hlen ⊢
 obtain ⟨a1, ha1, c1⟩ := Parts_Rm_R B 1 (by omega) (by omega) z 32 (by omega) hwf hm.1 (by omega) (by omega) r_rs (.nw 71 2) [] k'1z (by simp only [List.length_append, List.length_nil] at hlen ⊢; omega)
 rw [List.nil_append] at c1
 obtain ⟨cu, cs⟩ := k'21 B (s := x.u) ha1 (l := psV 1 (x.rs.map rmM.mar)) (by simp only [List.length_append] at hlen ⊢; omega)
 generalize psV 1 (x.rs.map rmM.mar) = o1 at c1 cu cs ⊢
 refine l_bw Tryz.func33 0 [] ?_
 refine l_wr [1] (c1) k'1z ha1 ?_
 refine l_wr [1] (cu) ha1 (.inl rfl) ?_
 refine k'1f [1] (cs) rfl rfl rfl rfl rfl rfl rfl (by decide) (by simp [k'6 (.inl rfl)]) rfl rfl rfl rfl ?_
 exact Z
theorem Bt_Size_calls (x : Bt) (xa : D) (hbig : x.sz < big) (hwf : x.wf) (hx : x.R xa) (hm : x.may = true) : k'0 (cx B) 19 [.d xa] [] (iT x.mar.length) [] := by
 have c := Bt_write_calls B x xa hbig hwf hx hm
 obtain ⟨z, l, rfl, r_rs⟩ := hx
 refine l_bw Tryz.func19 0 [] ?_
 refine k'2 [] (c) rfl rfl rfl ?_
 exact Z
theorem Bt_Marshal_calls (x : Bt) (xa : D) (hbig : x.sz < big) (hwf : x.wf) (hx : x.R xa) : k'0 (cx B) 10 [.d xa] [] (if x.may then (if tooB x.mar then .tup [sT [], .d (Er.code 7).d] else .tup [sT x.mar, .d .nili]) else .tup [sT [], .d (Er.code 8).d]) [] := by
 have cm := Bt_May_calls B x xa hbig hx
 have cw := fun h => Bt_write_calls B x xa hbig hwf hx h
 have cb := bound_calls B x.mar
 obtain ⟨z, l, rfl, r_rs⟩ := hx
 cases hm : x.may
 ·rw [hm] at cm
  refine l_bw Tryz.func10 0 [] ?_
  refine k'2 [] (cm) rfl rfl rfl ?_
  exact Z
 replace cw := cw hm
 rw [hm] at cm
 simp only [if_true]
 generalize x.mar = s at *
 by_cases ht : tooB s
 ·rw [if_pos ht] at cb ⊢
  refine l_bw Tryz.func10 0 [] ?_
  refine l_cw [] (cm) rfl rfl rfl ?_
  refine l_cw [] (cw) rfl rfl rfl ?_
  refine k'2 [] (cb) rfl rfl rfl ?_
  exact Z
 ·rw [if_neg ht] at cb ⊢
  refine l_bw Tryz.func10 0 [] ?_
  refine l_cw [] (cm) rfl rfl rfl ?_
  refine l_cw [] (cw) rfl rfl rfl ?_
  refine k'2 [] (cb) rfl rfl rfl ?_
  exact Z
/-! Points. -/
theorem k'4b {α : Type} {f g : α → Nat} (h : ∀ x, f x ≤ g x) (l : List α) : (l.map f).sum ≤ (l.map g).sum := by
 induction l with
 | nil => simp
 | cons x l ih => have := h x; rw [List.map_cons, List.map_cons, List.sum_cons, List.sum_cons]; omega
theorem sumTake {α : Type} (f : α → Nat) {l : List α} {i : Nat} {x : α} (h : l[i]? = some x) : ((l.take (i + 1)).map f).sum = ((l.take i).map f).sum + f x ∧ ((l.take i).map f).sum + f x ≤ (l.map f).sum := by
 have e : ((l.take (i + 1)).map f).sum = ((l.take i).map f).sum + f x := by rw [List.take_add_one, h]; simp
 refine ⟨e, ?_⟩
 rw [← e]
 have : l.map f = (l.take (i + 1)).map f ++ (l.drop (i + 1)).map f := by rw [← List.map_append, List.take_append_drop]
 rw [this, List.sum_append]
 omega
def Sm.sum (g : Me → Nat) (x : Sm) : Nat := (x.qs.map g).sum
def Rm.sum (g : Me → Nat) (x : Rm) : Nat := (x.qs.map (Sm.sum g)).sum
def Bt.sum (g : Me → Nat) (x : Bt) : Nat := (x.rs.map (Rm.sum g)).sum
theorem Sm.sum_le {g : Me → Nat} (h : ∀ m : Me, g m ≤ m.sz) (x : Sm) : Sm.sum g x ≤ smM.sz x := by
 have := k'4b h x.qs
 show (x.qs.map g).sum ≤ trSz scM meM x
 unfold trSz
 change _ ≤ 300 + _ + (x.qs.map Me.sz).sum + _ + _
 omega
theorem Rm.sum_le {g : Me → Nat} (h : ∀ m : Me, g m ≤ m.sz) (x : Rm) : Rm.sum g x ≤ rmM.sz x := by
 have := k'4b (Sm.sum_le h) x.qs
 show (x.qs.map (Sm.sum g)).sum ≤ trSz rsM smM x
 unfold trSz
 omega
set_option maxHeartbeats 4000000 in
theorem total_calls (f : Nat) (g : Me → Nat) (hg : ∀ (m : Me) (ma : D), m.sz < big → m.R ma → k'0 (cx B) f [.d ma] [] (iT (g m)) []) (hs : ∀ m : Me, g m ≤ m.sz) (x : Bt) (xa : D) (hbig : x.sz < big) (hx : x.R xa) : k'0 (cx B) 56 [.d xa, .d (.fn f [])] [] (iT (x.sum g)) [] := by
 obtain ⟨z, l, rfl, r1⟩ := hx
 unfold Bt.sz big at hbig
 have hl := r1.1
 have hT := k'4b (Rm.sum_le hs) x.rs
 have hla := k'22 Rm.sz1 x.rs
 unfold Bt.sum
 refine l_bw Tryz.func56 0 [] ?_
 refine k'8 (fun i : Nat => l.length - i) (fun i => [(1, .d (.fn f [])), (5, iT (((x.rs.take i).map (Rm.sum g)).sum : Nat)), (13, .d (.sl z l)), (14, iT l.length), (15, iT i)]) (fun _ => [.mu [.d (.sl z l), .d (.str x.u)]]) (fun i => i ≤ l.length) 0 (by omega) ⟨rfl, rfl, rfl, rfl, rfl, trivial⟩ rfl 1 rfl (fun _ => rfl) (fun _ => rfl) (fun _ => rfl) ?_
 intro i i1
 refine Y ?_
 refine k'13 rfl (fun hd => ?_) (fun hd => ?_)
 ·have hlt : i < l.length := by have := of_decide_eq_true hd; omega
  obtain ⟨ya, hyi⟩ : ∃ y, l[i]? = some y := ⟨_, List.getElem?_eq_getElem hlt⟩
  obtain ⟨v, hv, hvr⟩ := r1.at hyi
  obtain ⟨e1, e2⟩ := sumTake (Rm.sum g) hv
  have b1 := k'x (sz := rmM.sz) (List.mem_of_getElem? hv)
  generalize ((x.rs.take i).map (Rm.sum g)).sum = acc at *
  obtain ⟨zp, lp, z2, l2, rfl, -, r2⟩ := hvr
  have hl2 := r2.1
  have hT2 := k'4b (Sm.sum_le hs) v.qs
  have hla2 := k'22 Sm.sz1 v.qs
  change trSz rsM smM v ≤ _ at b1
  unfold trSz at b1
  rw [show Rm.sum g v = (v.qs.map (Sm.sum g)).sum from rfl] at e1 e2
  refine Y ?_
  refine k'1 (.indexAddr (k := .i64) (n := i) (es := l) rfl rfl rfl rfl (.inl ⟨_, rfl⟩) rfl (by omega) (by simpa using hyi) rfl (by decide)) rfl rfl ?_
  refine Y ?_
  refine k'8 (fun j : Nat => l2.length - j) (fun j => [(1, .d (.fn f [])), (5, iT (acc + ((v.qs.take j).map (Sm.sum g)).sum : Nat)), (13, .d (.sl z l)), (14, iT l.length), (15, iT i), (20, .d (.sl z2 l2)), (21, iT l2.length), (22, iT j)]) (fun _ => [.mu [.d (.sl z l), .d (.str x.u)], .mu [.d (.bool v.has), .d (.sl zp lp), .d (.int .u32 v.p.dropped), .d (.str v.p.u), .d (.sl z2 l2), .d (.str v.sch), .d (.str v.u)]]) (fun j => j ≤ l2.length) 0 (by omega) ⟨rfl, rfl, rfl, rfl, rfl, rfl, rfl, rfl, trivial⟩ rfl 2 rfl (fun _ => rfl) (fun _ => rfl) (fun _ => rfl) ?_
  intro j j1
  refine Y ?_
  refine k'13 rfl (fun hd2 => ?_) (fun hd2 => ?_)
  ·have hlt2 : j < l2.length := by have := of_decide_eq_true hd2; omega
   obtain ⟨ya, hyj⟩ : ∃ y, l2[j]? = some y := ⟨_, List.getElem?_eq_getElem hlt2⟩
   obtain ⟨w, hw, hwr⟩ := r2.at hyj
   obtain ⟨e3, e4⟩ := sumTake (Sm.sum g) hw
   have b2 := k'x (sz := smM.sz) (List.mem_of_getElem? hw)
   generalize ((v.qs.take j).map (Sm.sum g)).sum = acc2 at *
   obtain ⟨zq, lq, z3, l3, rfl, -, r3⟩ := hwr
   have hl3 := r3.1
   have hT3 := k'4b hs w.qs
   have hla3 := k'22 (sz := Me.sz) (fun x => by unfold Me.sz; omega) w.qs
   change trSz scM meM w ≤ _ at b2
   unfold trSz at b2
   change 300 + _ + (w.qs.map Me.sz).sum + _ + _ ≤ _ at b2
   rw [show Sm.sum g w = (w.qs.map g).sum from rfl] at e3 e4
   refine Y ?_
   refine k'1 (.indexAddr (k := .i64) (n := j) (es := l2) rfl rfl rfl rfl (.inl ⟨_, rfl⟩) rfl (by omega) (by simpa using hyj) rfl (by decide)) rfl rfl ?_
   refine Y ?_
   refine k'8 (fun k : Nat => l3.length - k) (fun k => [(1, .d (.fn f [])), (5, iT (acc + (acc2 + ((w.qs.take k).map g).sum) : Nat)), (13, .d (.sl z l)), (14, iT l.length), (15, iT i), (20, .d (.sl z2 l2)), (21, iT l2.length), (22, iT j), (27, .d (.sl z3 l3)), (28, iT l3.length), (29, iT k)]) (fun _ => [.mu [.d (.sl z l), .d (.str x.u)], .mu [.d (.bool v.has), .d (.sl zp lp), .d (.int .u32 v.p.dropped), .d (.str v.p.u), .d (.sl z2 l2), .d (.str v.sch), .d (.str v.u)], .mu [.d (.bool w.has), .d (.str w.p.name), .d (.str w.p.version), .d (.sl zq lq), .d (.int .u32 w.p.dropped), .d (.str w.p.u), .d (.sl z3 l3), .d (.str w.sch), .d (.str w.u)]]) (fun k => k ≤ l3.length) 0 (by omega) ⟨rfl, rfl, rfl, rfl, rfl, rfl, rfl, rfl, rfl, rfl, rfl, trivial⟩ rfl 3 rfl (fun _ => rfl) (fun _ => rfl) (fun _ => rfl) ?_
   intro k k1
   refine Y ?_
   refine k'13 rfl (fun hd3 => ?_) (fun hd3 => ?_)
   ·have hlt3 : k < l3.length := by have := of_decide_eq_true hd3; omega
    obtain ⟨ma, hmk⟩ : ∃ y, l3[k]? = some y := ⟨_, List.getElem?_eq_getElem hlt3⟩
    obtain ⟨m, hm, hmr⟩ := r3.at hmk
    obtain ⟨e5, e6⟩ := sumTake g hm
    have b3 := k'x (sz := Me.sz) (List.mem_of_getElem? hm)
    have hc := hg m ma (by unfold big; omega) hmr
    generalize ((w.qs.take k).map g).sum = acc3 at *
    obtain ⟨a0, a1, a2, a3, a4, a5, a6, a7, a8, a9, a10, a11, a12, a13, a14, a15, a16, a17, rfl⟩ := Me.R_sh hmr
    refine Y ?_
    refine k'1 (.indexAddr (k := .i64) (n := k) (es := l3) rfl rfl rfl rfl (.inl ⟨_, rfl⟩) rfl (by omega) (by simpa using hmk) rfl (by decide)) rfl rfl ?_
    refine Y ?_
    refine l_cw [] (hc) rfl rfl rfl ?_
    rw [show IntKind.i64.wrap (((acc + (acc2 + acc3) : Nat) : Int) + (g m : Int)) = ((acc + (acc2 + (acc3 + g m)) : Nat) : Int) by rw [k'10 (by omega) (by omega)]; omega, show IntKind.i64.wrap ((k : Int) + 1) = ((k + 1 : Nat) : Int) by rw [k'10 (by omega) (by omega)]; omega]
    exact ⟨k + 1, by omega, by omega, ⟨rfl, by rw [e5]; rfl, rfl, rfl, rfl, rfl, rfl, rfl, rfl, rfl, rfl, trivial⟩, rfl, k'z rfl⟩
   ·have hge : k = w.qs.length := by have := of_decide_eq_false hd3; omega
    subst hge
    rw [List.take_length]
    refine Y ?_
    rw [wS j (by omega)]
    exact ⟨j + 1, by omega, by omega, ⟨rfl, by rw [e3]; rfl, rfl, rfl, rfl, rfl, rfl, rfl, trivial⟩, rfl, k'z rfl⟩
  ·have hge : j = v.qs.length := by have := of_decide_eq_false hd2; omega
   subst hge
   rw [List.take_length]
   refine Y ?_
   rw [wS i (by omega)]
   exact ⟨i + 1, by omega, by omega, ⟨rfl, by rw [e1]; rfl, rfl, rfl, rfl, trivial⟩, rfl, k'z rfl⟩
 ·have hge : i = x.rs.length := by have := of_decide_eq_false hd; omega
  subst hge
  rw [List.take_length]
  exact Z
theorem Me.points_le (m : Me) : m.points ≤ m.sz := by
 have := In.cnt m.dat
 unfold Me.points Me.sz
 omega
theorem Bt_Points_calls (x : Bt) (xa : D) (hbig : x.sz < big) (hx : x.R xa) : k'0 (cx B) 20 [.d xa] [] (iT (x.sum Me.points)) [] := by
 have c := total_calls B 57 Me.points (fun m ma h hr => Points_calls B m ma (by have := m.points_le; unfold big at h; omega) hr) Me.points_le x xa hbig hx
 obtain ⟨z, l, rfl, r1⟩ := hx
 refine l_bw Tryz.func20 0 [] ?_
 refine k'2 [] (c) rfl rfl rfl ?_
 exact Z
end
