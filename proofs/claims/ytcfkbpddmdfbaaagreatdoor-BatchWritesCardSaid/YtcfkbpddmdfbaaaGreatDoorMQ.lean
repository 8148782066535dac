/- Metrics: the reference tells if they may be. -/
import Derived.Test.YtcfkbpddmdfbaaaGreatDoorMN
set_option linter.unusedSimpArgs false
set_option linter.unusedVariables false
set_option maxRecDepth 100000
namespace Go.Proofs.YtcfkbpddmdfbaaaGreatDoor
open Go Go.Abs
variable (B : Fr)
theorem all_take {α : Type} (p : α → Bool) {l : List α} {i : Nat} {v : α} (h : l[i]? = some v) (h2 : (l.take i).all p = true) : (l.take (i + 1)).all p = p v := by
 rw [List.take_add_one, h, List.all_append, h2]; simp
theorem bare0_pts {k : Int} {x : In} (hk : k = 0) (h : bareM k x = true) (e : Int) : x.pts e = true := by
 subst hk
 obtain ⟨nbs, his, ehs, sus, temp, mono, iu⟩ := x
 unfold bareM bareI at h
 simp at h
 obtain ⟨⟨⟨⟨⟨⟨rfl, rfl⟩, rfl⟩, rfl⟩, -⟩, -⟩, -⟩ := h
 rfl
theorem lenP {α : Type} {R : α → D → Prop} {l : List α} {xs : List D} (h : RsOf R l xs) : decide ((xs.length : Int) > 0) = !l.isEmpty := by
 rw [h.1]
 cases l with
 | nil => rfl
 | cons a l => rw [show (a :: l).isEmpty = false from rfl]; exact decide_eq_true (by simp)
theorem Me.may_chain (x : Me) (d : Int) : x.may d = (!decide (d < 0) && (!decide (x.kind < 0) && (!decide (x.kind > 5) && (txt x.name && (txt x.desc && (txt x.unit && ((x.mets.all fun k => k.may (d - 1)) && (k'1a tbM x.u d && mayOn x.kind x.dat (d - 1))))))))) := by
 unfold Me.may
 rw [Bool.eq_iff_iff]
 simp only [Bool.and_eq_true, Bool.not_eq_true', decide_eq_true_eq, decide_eq_false_iff_not]
 constructor
 ·rintro ⟨⟨⟨⟨⟨⟨h1, h2⟩, h3⟩, h4⟩, h5⟩, h6⟩, h7⟩
  have hk := h2
  unfold mayOn at hk
  simp only [Bool.and_eq_true, decide_eq_true_eq] at hk
  exact ⟨by omega, by omega, by omega, h3, h4, h5, h6, h7, h2⟩
 ·rintro ⟨h1, h2, h3, h4, h5, h6, h7, h8, h9⟩
  exact ⟨⟨⟨⟨⟨⟨by omega, h9⟩, h4⟩, h5⟩, h6⟩, h7⟩, h8⟩
set_option maxHeartbeats 8000000 in
theorem rMayMe_calls (x : Me) (xa : D) (d : Int) (hbig : x.sz < big) (hx : x.R xa) (hd1 : -9223372036854775808 ≤ d) (hd2 : d < 9223372036854775808) : k'0 (cx B) 153 [.d xa, .d (.int .i64 d)] [] (.d (.bool (x.may d))) [] := by
 obtain ⟨z_nbs, l_nbs, z_his, l_his, z_ehs, l_ehs, z_sus, l_sus, z_mets, l_mets, rfl, r_nbs, r_his, r_ehs, r_sus, r_mets⟩ := hx
 unfold Me.sz In.sz big at hbig
 have c_name := k'17 B x.name (by unfold big; omega)
 have c_desc := k'17 B x.desc (by unfold big; omega)
 have c_unit := k'17 B x.unit (by unfold big; omega)
 have q_mets : 0 ≤ d → k'0 (cx B) 148 [.d (.sl z_mets l_mets), .d (.int .i64 (d - 1))] [] (.d (.bool (x.mets.all fun k => k.may (d - 1)))) [] := fun h => k'15 B x.mets z_mets l_mets (d - 1) (by unfold big; omega) r_mets (by omega) (by omega)
 have c_t := tabMe_calls B
 have c_u := k'c B [10, 18, 26, 42, 58, 74, 82, 90, 98] (by decide) (by decide) x.u d (by unfold big; omega) hd1 hd2
 rw [k'47 tk_Me] at c_u
 rw [Me.may_chain]
 refine l_bw Tryz.func153 0 [] ?_
 refine xw ?_
 cases hd : decide (d < 0)
 rotate_left
 ·refine xw ?_
  exact Z
 have hd0 : 0 ≤ d := by have := of_decide_eq_false hd; omega
 replace q_mets := q_mets hd0
 rw [decide_eq_true hd0, Bool.true_and] at c_u
 refine xw ?_
 refine Y ?_
 cases hk0 : decide (x.kind < 0)
 rotate_left
 ·refine xw ?_
  exact Z
 refine xw ?_
 refine Y ?_
 cases hk5 : decide (x.kind > 5)
 rotate_left
 ·refine xw ?_
  exact Z
 refine xw ?_
 refine Y ?_
 refine k'3 [] (c_name) rfl rfl rfl ?_
 refine xw ?_
 cases t_name : txt x.name
 ·refine xw ?_
  exact Z
 refine xw ?_
 refine Y ?_
 refine k'3 [] (c_desc) rfl rfl rfl ?_
 refine xw ?_
 cases t_desc : txt x.desc
 ·refine xw ?_
  exact Z
 refine xw ?_
 refine Y ?_
 refine k'3 [] (c_unit) rfl rfl rfl ?_
 refine xw ?_
 cases t_unit : txt x.unit
 ·refine xw ?_
  exact Z
 refine xw ?_
 refine Y ?_
 rw [k'10 (by omega) (by omega)]
 refine k'3 [] (q_mets) rfl rfl rfl ?_
 refine xw ?_
 cases t_mets : (x.mets.all fun k => k.may (d - 1))
 ·refine xw ?_
  exact Z
 refine xw ?_
 refine Y ?_
 refine k'3 [] (c_t) rfl rfl rfl ?_
 refine xw ?_
 refine Y ?_
 refine k'3 [] (c_u) rfl rfl rfl ?_
 refine xw ?_
 cases t_u : k'1a tbM x.u d
 ·refine xw ?_
  exact Z
 refine xw ?_
 refine x_nil rfl ?_
 refine r_seq ?_
 refine r_false rfl ?_
 refine r_skip ?_
 rw [mayOn_bare]
 refine l_join [(1, .d (.int .i64 d)), (2, .ptr 0 0), (5, .d (.int .i64 x.kind))] [.mu [.d (.str x.name), .d (.str x.desc), .d (.str x.unit), .d (.int .i64 x.kind), .d (.int .i32 x.dat.temp), .d (.bool x.dat.mono), .d (.sl z_nbs l_nbs), .d (.sl z_his l_his), .d (.sl z_ehs l_ehs), .d (.sl z_sus l_sus), .d (.sl z_mets l_mets), .d (.str x.dat.u), .d (.str x.u)]] (bareM x.kind x.dat = true) ?_ (fun hb e => ?_)
 ·have hkk : x.kind = 0 ∨ x.kind = 1 ∨ x.kind = 2 ∨ x.kind = 3 ∨ x.kind = 4 ∨ x.kind = 5 := by have := of_decide_eq_false hk0; have := of_decide_eq_false hk5; omega
  have p_nbs := lenP r_nbs
  have p_his := lenP r_his
  have p_ehs := lenP r_ehs
  have p_sus := lenP r_sus
  clear c_name c_desc c_unit q_mets c_u hbig r_nbs r_his r_ehs r_sus r_mets t_name t_desc t_unit t_mets t_u hk0 hk5
  obtain ⟨name, desc, unit, kind, dat, mets, u⟩ := x
  obtain ⟨nbs, his, ehs, sus, temp, mono, iu⟩ := dat
  dsimp only at *
  rcases hkk with rfl | rfl | rfl | rfl | rfl | rfl
  ·rw [show bareM 0 ⟨nbs, his, ehs, sus, temp, mono, iu⟩ = (nbs.isEmpty && (his.isEmpty && (ehs.isEmpty && (sus.isEmpty && ((temp == 0) && ((!mono) && (iu == []))))))) from by unfold bareM bareI In.isNo; cases nbs.isEmpty <;> cases his.isEmpty <;> cases ehs.isEmpty <;> cases sus.isEmpty <;> cases mono <;> cases (temp == 0) <;> cases (iu == []) <;> rfl]
   refine Y ?_
   rw [p_nbs]
   cases b_nbs : nbs.isEmpty with
   | false =>
    exact Z
   | true =>
   refine Y ?_
   rw [p_his]
   cases b_his : his.isEmpty with
   | false =>
    exact Z
   | true =>
   refine Y ?_
   rw [p_ehs]
   cases b_ehs : ehs.isEmpty with
   | false =>
    exact Z
   | true =>
   refine Y ?_
   rw [p_sus]
   cases b_sus : sus.isEmpty with
   | false =>
    exact Z
   | true =>
   refine Y ?_
   rw [show (temp != 0) = !(temp == 0) from rfl]
   cases b_temp : (temp == 0) with
   | false =>
    exact Z
   | true =>
   refine Y ?_
   cases mono with
   | true =>
    exact Z
   | false =>
   refine Y ?_
   cases b_u : (iu == []) with
   | false =>
    exact Z
   | true =>
   refine Y ?_
   exact ⟨rfl, ⟨rfl, rfl, rfl, trivial⟩, rfl⟩
  ·rw [show bareM 1 ⟨nbs, his, ehs, sus, temp, mono, iu⟩ = (his.isEmpty && (ehs.isEmpty && (sus.isEmpty && ((temp == 0) && (!mono))))) from by unfold bareM bareI In.isNo; cases nbs.isEmpty <;> cases his.isEmpty <;> cases ehs.isEmpty <;> cases sus.isEmpty <;> cases mono <;> cases (temp == 0) <;> cases (iu == []) <;> rfl]
   refine Y ?_
   rw [p_his]
   cases b_his : his.isEmpty with
   | false =>
    exact Z
   | true =>
   refine Y ?_
   rw [p_ehs]
   cases b_ehs : ehs.isEmpty with
   | false =>
    exact Z
   | true =>
   refine Y ?_
   rw [p_sus]
   cases b_sus : sus.isEmpty with
   | false =>
    exact Z
   | true =>
   refine Y ?_
   rw [show (temp != 0) = !(temp == 0) from rfl]
   cases b_temp : (temp == 0) with
   | false =>
    exact Z
   | true =>
   refine Y ?_
   cases mono with
   | true =>
    exact Z
   | false =>
   refine Y ?_
   exact ⟨rfl, ⟨rfl, rfl, rfl, trivial⟩, rfl⟩
  ·rw [show bareM 2 ⟨nbs, his, ehs, sus, temp, mono, iu⟩ = (his.isEmpty && (ehs.isEmpty && sus.isEmpty)) from by unfold bareM bareI In.isNo; cases nbs.isEmpty <;> cases his.isEmpty <;> cases ehs.isEmpty <;> cases sus.isEmpty <;> cases mono <;> cases (temp == 0) <;> cases (iu == []) <;> rfl]
   refine Y ?_
   rw [p_his]
   cases b_his : his.isEmpty with
   | false =>
    exact Z
   | true =>
   refine Y ?_
   rw [p_ehs]
   cases b_ehs : ehs.isEmpty with
   | false =>
    exact Z
   | true =>
   refine Y ?_
   rw [p_sus]
   cases b_sus : sus.isEmpty with
   | false =>
    exact Z
   | true =>
   refine Y ?_
   exact ⟨rfl, ⟨rfl, rfl, rfl, trivial⟩, rfl⟩
  ·rw [show bareM 3 ⟨nbs, his, ehs, sus, temp, mono, iu⟩ = (nbs.isEmpty && (ehs.isEmpty && (sus.isEmpty && (!mono)))) from by unfold bareM bareI In.isNo; cases nbs.isEmpty <;> cases his.isEmpty <;> cases ehs.isEmpty <;> cases sus.isEmpty <;> cases mono <;> cases (temp == 0) <;> cases (iu == []) <;> rfl]
   refine Y ?_
   rw [p_nbs]
   cases b_nbs : nbs.isEmpty with
   | false =>
    exact Z
   | true =>
   refine Y ?_
   rw [p_ehs]
   cases b_ehs : ehs.isEmpty with
   | false =>
    exact Z
   | true =>
   refine Y ?_
   rw [p_sus]
   cases b_sus : sus.isEmpty with
   | false =>
    exact Z
   | true =>
   refine Y ?_
   cases mono with
   | true =>
    exact Z
   | false =>
   refine Y ?_
   exact ⟨rfl, ⟨rfl, rfl, rfl, trivial⟩, rfl⟩
  ·rw [show bareM 4 ⟨nbs, his, ehs, sus, temp, mono, iu⟩ = (nbs.isEmpty && (his.isEmpty && (sus.isEmpty && (!mono)))) from by unfold bareM bareI In.isNo; cases nbs.isEmpty <;> cases his.isEmpty <;> cases ehs.isEmpty <;> cases sus.isEmpty <;> cases mono <;> cases (temp == 0) <;> cases (iu == []) <;> rfl]
   refine Y ?_
   rw [p_nbs]
   cases b_nbs : nbs.isEmpty with
   | false =>
    exact Z
   | true =>
   refine Y ?_
   rw [p_his]
   cases b_his : his.isEmpty with
   | false =>
    exact Z
   | true =>
   refine Y ?_
   rw [p_sus]
   cases b_sus : sus.isEmpty with
   | false =>
    exact Z
   | true =>
   refine Y ?_
   cases mono with
   | true =>
    exact Z
   | false =>
   refine Y ?_
   exact ⟨rfl, ⟨rfl, rfl, rfl, trivial⟩, rfl⟩
  ·rw [show bareM 5 ⟨nbs, his, ehs, sus, temp, mono, iu⟩ = (nbs.isEmpty && (his.isEmpty && (ehs.isEmpty && ((temp == 0) && (!mono))))) from by unfold bareM bareI In.isNo; cases nbs.isEmpty <;> cases his.isEmpty <;> cases ehs.isEmpty <;> cases sus.isEmpty <;> cases mono <;> cases (temp == 0) <;> cases (iu == []) <;> rfl]
   refine Y ?_
   rw [p_nbs]
   cases b_nbs : nbs.isEmpty with
   | false =>
    exact Z
   | true =>
   refine Y ?_
   rw [p_his]
   cases b_his : his.isEmpty with
   | false =>
    exact Z
   | true =>
   refine Y ?_
   rw [p_ehs]
   cases b_ehs : ehs.isEmpty with
   | false =>
    exact Z
   | true =>
   refine Y ?_
   rw [show (temp != 0) = !(temp == 0) from rfl]
   cases b_temp : (temp == 0) with
   | false =>
    exact Z
   | true =>
   refine Y ?_
   cases mono with
   | true =>
    exact Z
   | false =>
   refine Y ?_
   exact ⟨rfl, ⟨rfl, rfl, rfl, trivial⟩, rfl⟩
 rw [hb, Bool.true_and, show mayI x.kind x.dat (d - 1) = ((decide (0 ≤ d - 1) && k'1a (tbI x.kind) x.dat.u (d - 1)) && x.dat.pts (d - 1 - 1)) from by unfold mayI; ac_rfl]
 have hk0' : 0 ≤ x.kind := by have := of_decide_eq_false hk0; omega
 have hk5' : x.kind ≤ 5 := by have := of_decide_eq_false hk5; omega
 refine l_join [(1, .d (.int .i64 d)), (2, .ptr 0 0)] [.mu [.d (.str x.name), .d (.str x.desc), .d (.str x.unit), .d (.int .i64 x.kind), .d (.int .i32 x.dat.temp), .d (.bool x.dat.mono), .d (.sl z_nbs l_nbs), .d (.sl z_his l_his), .d (.sl z_ehs l_ehs), .d (.sl z_sus l_sus), .d (.sl z_mets l_mets), .d (.str x.dat.u), .d (.str x.u)]] ((!decide (x.kind > 0) || ((decide (0 ≤ d - 1) && k'1a (tbI x.kind) x.dat.u (d - 1)) && x.dat.pts (d - 1 - 1))) = x.dat.pts (d - 1 - 1)) ?_ (fun hR e2 => ?_)
 ·by_cases hk : x.kind > 0
  ·have c_in := rInner_calls B x.kind (by omega) hk5'
   have c_iu := k'c B (inTb x.kind) (by unfold inTb; split <;> (try split) <;> decide) (by unfold inTb; split <;> (try split) <;> decide) x.dat.u (d - 1) (by unfold big; omega) (by omega) (by omega)
   rw [k'47 (fun n kd h => tb_in (by omega) hk5' n kd h)] at c_iu
   generalize (decide (0 ≤ d - 1) && k'1a (tbI x.kind) x.dat.u (d - 1)) = U at *
   generalize x.dat.pts (d - 1 - 1) = P at *
   refine Y ?_
   refine xw ?_
   rw [show decide (x.kind > 0) = true from decide_eq_true hk]
   refine xw ?_
   refine Y ?_
   refine k'3 [] (c_in) rfl rfl rfl ?_
   refine xw ?_
   rw [k'10 (by omega) (by omega)]
   refine Y ?_
   refine k'3 [] (c_iu) rfl rfl rfl ?_
   refine xw ?_
   cases U
   ·refine xw ?_
    exact Z
   refine xw ?_
   refine Y ?_
   exact ⟨by simp, ⟨rfl, rfl, trivial⟩, rfl⟩
  ·have hp := bare0_pts (show x.kind = 0 by omega) hb (d - 1 - 1)
   rw [hp]
   refine Y ?_
   refine xw ?_
   rw [show decide (x.kind > 0) = false from decide_eq_false hk]
   refine xw ?_
   refine Y ?_
   exact ⟨by simp, ⟨rfl, rfl, trivial⟩, rfl⟩
 rw [hR, show x.dat.pts (d - 1 - 1) = ((x.dat.nbs.all fun y => y.may (d - 1 - 1)) && ((x.dat.his.all fun y => y.may (d - 1 - 1)) && ((x.dat.ehs.all fun y => y.may (d - 1 - 1)) && (x.dat.sus.all fun y => y.may (d - 1 - 1))))) from by unfold In.pts; ac_rfl]
 refine Y ?_
 have hs_nbs := k'22 (sz := Nb.sz) (fun x => by unfold Nb.sz; omega) x.dat.nbs
 refine k'8 (fun i : Nat => x.dat.nbs.length - i) (fun i => [(1, .d (.int .i64 d)), (2, .ptr 0 0), (6, iT i)]) (fun _ => [.mu [.d (.str x.name), .d (.str x.desc), .d (.str x.unit), .d (.int .i64 x.kind), .d (.int .i32 x.dat.temp), .d (.bool x.dat.mono), .d (.sl z_nbs l_nbs), .d (.sl z_his l_his), .d (.sl z_ehs l_ehs), .d (.sl z_sus l_sus), .d (.sl z_mets l_mets), .d (.str x.dat.u), .d (.str x.u)]]) (fun i => i ≤ x.dat.nbs.length ∧ ((x.dat.nbs.take i).all fun y => y.may (d - 1 - 1)) = true) 0 ⟨by omega, rfl⟩ ⟨rfl, rfl, rfl, trivial⟩ rfl 1 rfl (fun _ => rfl) (fun _ => rfl) (fun _ => rfl) ?_
 rintro i ⟨i1, i2⟩
 refine Y ?_
 refine k'13 rfl (fun hc => ?_) (fun hc => ?_)
 ·have hlt : i < x.dat.nbs.length := by have := of_decide_eq_true hc; rw [r_nbs.1] at this; omega
  obtain ⟨a', hxi⟩ : ∃ a, l_nbs[i]? = some a := ⟨_, List.getElem?_eq_getElem (by rw [r_nbs.1]; omega)⟩
  obtain ⟨v, hv, rv⟩ := r_nbs.at hxi
  have hm := k'x (sz := Nb.sz) (List.mem_of_getElem? hv)
  have ht := all_take (fun y : Nb => y.may (d - 1 - 1)) hv i2
  have hq := rMayNb_calls B v a' (d - 1 - 1) (by unfold big; omega) rv (by omega) (by omega)
  obtain ⟨a0, a1, a2, a3, a4, a5, a6, a7, a8, a9, rfl⟩ := Nb.R_sh rv
  refine Y ?_
  refine k'1 (.indexAddr (k := .i64) (n := i) (es := l_nbs) rfl rfl rfl rfl (.inl ⟨_, rfl⟩) rfl (by omega) (by simpa using hxi) rfl (by decide)) rfl rfl ?_
  refine Y ?_
  rw [show IntKind.i64.wrap (d - 2) = d - 1 - 1 by rw [k'10 (by omega) (by omega)]; omega]
  refine l_cw [] (hq) rfl rfl rfl ?_
  cases hr : v.may (d - 1 - 1)
  ·rw [show (x.dat.nbs.all fun y => y.may (d - 1 - 1)) = false from by
    rw [Bool.eq_false_iff]; intro ha; rw [List.all_eq_true.1 ha v (List.mem_of_getElem? hv)] at hr; simp at hr]
   exact Z
  refine Y ?_
  rw [wS i (by omega)]
  exact ⟨i + 1, by omega, ⟨by omega, by rw [ht, hr]⟩, ⟨rfl, rfl, rfl, trivial⟩, rfl, k'z rfl⟩
 have hge : i = x.dat.nbs.length := by have := of_decide_eq_false hc; rw [r_nbs.1] at this; omega
 subst hge
 rw [List.take_length] at i2
 rw [i2]
 clear i2 i1 hc
 refine Y ?_
 have hs_his := k'22 (sz := Hi.sz) (fun x => by unfold Hi.sz; omega) x.dat.his
 refine k'8 (fun i : Nat => x.dat.his.length - i) (fun i => [(1, .d (.int .i64 d)), (2, .ptr 0 0), (7, iT i)]) (fun _ => [.mu [.d (.str x.name), .d (.str x.desc), .d (.str x.unit), .d (.int .i64 x.kind), .d (.int .i32 x.dat.temp), .d (.bool x.dat.mono), .d (.sl z_nbs l_nbs), .d (.sl z_his l_his), .d (.sl z_ehs l_ehs), .d (.sl z_sus l_sus), .d (.sl z_mets l_mets), .d (.str x.dat.u), .d (.str x.u)]]) (fun i => i ≤ x.dat.his.length ∧ ((x.dat.his.take i).all fun y => y.may (d - 1 - 1)) = true) 0 ⟨by omega, rfl⟩ ⟨rfl, rfl, rfl, trivial⟩ rfl 1 rfl (fun _ => rfl) (fun _ => rfl) (fun _ => rfl) ?_
 rintro i ⟨i1, i2⟩
 refine Y ?_
 refine k'13 rfl (fun hc => ?_) (fun hc => ?_)
 ·have hlt : i < x.dat.his.length := by have := of_decide_eq_true hc; rw [r_his.1] at this; omega
  obtain ⟨a', hxi⟩ : ∃ a, l_his[i]? = some a := ⟨_, List.getElem?_eq_getElem (by rw [r_his.1]; omega)⟩
  obtain ⟨v, hv, rv⟩ := r_his.at hxi
  have hm := k'x (sz := Hi.sz) (List.mem_of_getElem? hv)
  have ht := all_take (fun y : Hi => y.may (d - 1 - 1)) hv i2
  have hq := rMayHi_calls B v a' (d - 1 - 1) (by unfold big; omega) rv (by omega) (by omega)
  obtain ⟨a0, a1, a2, a3, a4, a5, a6, a7, a8, a9, a10, a11, a12, a13, a14, a15, a16, a17, a18, rfl⟩ := Hi.R_sh rv
  refine Y ?_
  refine k'1 (.indexAddr (k := .i64) (n := i) (es := l_his) rfl rfl rfl rfl (.inl ⟨_, rfl⟩) rfl (by omega) (by simpa using hxi) rfl (by decide)) rfl rfl ?_
  refine Y ?_
  rw [show IntKind.i64.wrap (d - 2) = d - 1 - 1 by rw [k'10 (by omega) (by omega)]; omega]
  refine l_cw [] (hq) rfl rfl rfl ?_
  cases hr : v.may (d - 1 - 1)
  ·rw [show (x.dat.his.all fun y => y.may (d - 1 - 1)) = false from by
    rw [Bool.eq_false_iff]; intro ha; rw [List.all_eq_true.1 ha v (List.mem_of_getElem? hv)] at hr; simp at hr]
   exact Z
  refine Y ?_
  rw [wS i (by omega)]
  exact ⟨i + 1, by omega, ⟨by omega, by rw [ht, hr]⟩, ⟨rfl, rfl, rfl, trivial⟩, rfl, k'z rfl⟩
 have hge : i = x.dat.his.length := by have := of_decide_eq_false hc; rw [r_his.1] at this; omega
 subst hge
 rw [List.take_length] at i2
 rw [i2]
 clear i2 i1 hc
 refine Y ?_
 have hs_ehs := k'22 (sz := Eh.sz) (fun x => by unfold Eh.sz; omega) x.dat.ehs
 refine k'8 (fun i : Nat => x.dat.ehs.length - i) (fun i => [(1, .d (.int .i64 d)), (2, .ptr 0 0), (8, iT i)]) (fun _ => [.mu [.d (.str x.name), .d (.str x.desc), .d (.str x.unit), .d (.int .i64 x.kind), .d (.int .i32 x.dat.temp), .d (.bool x.dat.mono), .d (.sl z_nbs l_nbs), .d (.sl z_his l_his), .d (.sl z_ehs l_ehs), .d (.sl z_sus l_sus), .d (.sl z_mets l_mets), .d (.str x.dat.u), .d (.str x.u)]]) (fun i => i ≤ x.dat.ehs.length ∧ ((x.dat.ehs.take i).all fun y => y.may (d - 1 - 1)) = true) 0 ⟨by omega, rfl⟩ ⟨rfl, rfl, rfl, trivial⟩ rfl 1 rfl (fun _ => rfl) (fun _ => rfl) (fun _ => rfl) ?_
 rintro i ⟨i1, i2⟩
 refine Y ?_
 refine k'13 rfl (fun hc => ?_) (fun hc => ?_)
 ·have hlt : i < x.dat.ehs.length := by have := of_decide_eq_true hc; rw [r_ehs.1] at this; omega
  obtain ⟨a', hxi⟩ : ∃ a, l_ehs[i]? = some a := ⟨_, List.getElem?_eq_getElem (by rw [r_ehs.1]; omega)⟩
  obtain ⟨v, hv, rv⟩ := r_ehs.at hxi
  have hm := k'x (sz := Eh.sz) (List.mem_of_getElem? hv)
  have ht := all_take (fun y : Eh => y.may (d - 1 - 1)) hv i2
  have hq := rMayEh_calls B v a' (d - 1 - 1) (by unfold big; omega) rv (by omega) (by omega)
  obtain ⟨a0, a1, a2, a3, a4, a5, a6, a7, a8, a9, a10, a11, a12, a13, a14, a15, a16, a17, a18, a19, a20, a21, a22, a23, a24, a25, a26, a27, rfl⟩ := Eh.R_sh rv
  refine Y ?_
  refine k'1 (.indexAddr (k := .i64) (n := i) (es := l_ehs) rfl rfl rfl rfl (.inl ⟨_, rfl⟩) rfl (by omega) (by simpa using hxi) rfl (by decide)) rfl rfl ?_
  refine Y ?_
  rw [show IntKind.i64.wrap (d - 2) = d - 1 - 1 by rw [k'10 (by omega) (by omega)]; omega]
  refine l_cw [] (hq) rfl rfl rfl ?_
  cases hr : v.may (d - 1 - 1)
  ·rw [show (x.dat.ehs.all fun y => y.may (d - 1 - 1)) = false from by
    rw [Bool.eq_false_iff]; intro ha; rw [List.all_eq_true.1 ha v (List.mem_of_getElem? hv)] at hr; simp at hr]
   exact Z
  refine Y ?_
  rw [wS i (by omega)]
  exact ⟨i + 1, by omega, ⟨by omega, by rw [ht, hr]⟩, ⟨rfl, rfl, rfl, trivial⟩, rfl, k'z rfl⟩
 have hge : i = x.dat.ehs.length := by have := of_decide_eq_false hc; rw [r_ehs.1] at this; omega
 subst hge
 rw [List.take_length] at i2
 rw [i2]
 clear i2 i1 hc
 refine Y ?_
 have hs_sus := k'22 (sz := Su.sz) (fun x => by unfold Su.sz; omega) x.dat.sus
 refine k'8 (fun i : Nat => x.dat.sus.length - i) (fun i => [(1, .d (.int .i64 d)), (2, .ptr 0 0), (9, iT i)]) (fun _ => [.mu [.d (.str x.name), .d (.str x.desc), .d (.str x.unit), .d (.int .i64 x.kind), .d (.int .i32 x.dat.temp), .d (.bool x.dat.mono), .d (.sl z_nbs l_nbs), .d (.sl z_his l_his), .d (.sl z_ehs l_ehs), .d (.sl z_sus l_sus), .d (.sl z_mets l_mets), .d (.str x.dat.u), .d (.str x.u)]]) (fun i => i ≤ x.dat.sus.length ∧ ((x.dat.sus.take i).all fun y => y.may (d - 1 - 1)) = true) 0 ⟨by omega, rfl⟩ ⟨rfl, rfl, rfl, trivial⟩ rfl 1 rfl (fun _ => rfl) (fun _ => rfl) (fun _ => rfl) ?_
 rintro i ⟨i1, i2⟩
 refine Y ?_
 refine k'13 rfl (fun hc => ?_) (fun hc => ?_)
 ·have hlt : i < x.dat.sus.length := by have := of_decide_eq_true hc; rw [r_sus.1] at this; omega
  obtain ⟨a', hxi⟩ : ∃ a, l_sus[i]? = some a := ⟨_, List.getElem?_eq_getElem (by rw [r_sus.1]; omega)⟩
  obtain ⟨v, hv, rv⟩ := r_sus.at hxi
  have hm := k'x (sz := Su.sz) (List.mem_of_getElem? hv)
  have ht := all_take (fun y : Su => y.may (d - 1 - 1)) hv i2
  have hq := rMaySu_calls B v a' (d - 1 - 1) (by unfold big; omega) rv (by omega) (by omega)
  obtain ⟨a0, a1, a2, a3, a4, a5, a6, a7, a8, a9, rfl⟩ := Su.R_sh rv
  refine Y ?_
  refine k'1 (.indexAddr (k := .i64) (n := i) (es := l_sus) rfl rfl rfl rfl (.inl ⟨_, rfl⟩) rfl (by omega) (by simpa using hxi) rfl (by decide)) rfl rfl ?_
  refine Y ?_
  rw [show IntKind.i64.wrap (d - 2) = d - 1 - 1 by rw [k'10 (by omega) (by omega)]; omega]
  refine l_cw [] (hq) rfl rfl rfl ?_
  cases hr : v.may (d - 1 - 1)
  ·rw [show (x.dat.sus.all fun y => y.may (d - 1 - 1)) = false from by
    rw [Bool.eq_false_iff]; intro ha; rw [List.all_eq_true.1 ha v (List.mem_of_getElem? hv)] at hr; simp at hr]
   exact Z
  refine Y ?_
  rw [wS i (by omega)]
  exact ⟨i + 1, by omega, ⟨by omega, by rw [ht, hr]⟩, ⟨rfl, rfl, rfl, trivial⟩, rfl, k'z rfl⟩
 have hge : i = x.dat.sus.length := by have := of_decide_eq_false hc; rw [r_sus.1] at this; omega
 subst hge
 rw [List.take_length] at i2
 rw [i2]
 clear i2 i1 hc
 exact Z
