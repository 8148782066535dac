/- Metrics: read, with more behind; read, and called so. -/
import Derived.Test.YtnaojdjhjkendaaGreatDoorMU
import Derived.Test.YtnaojdjhjkendaaGreatDoorXI
import Derived.KernelRfl
import Derived.Test.YtnaojdjhjkendaaGreatDoorSM
import Derived.Test.YtnaojdjhjkendaaGreatDoorNL
import Derived.Test.YtnaojdjhjkendaaGreatDoorHL
import Derived.Test.YtnaojdjhjkendaaGreatDoorQL
import Derived.Test.YtnaojdjhjkendaaGreatDoorMN
import Derived.Test.YtnaojdjhjkendaaGreatDoorMX
import Derived.Test.YtnaojdjhjkendaaGreatDoorXG3
import Derived.Test.YtnaojdjhjkendaaGreatDoorRows
import Derived.ChangeSame
import Derived.ChangeVars
import Derived.ChangeStays
import Derived.ChangeMaps5
import Derived.JoinedOf
import Derived.Handed
import Derived.RowKit
import Derived.RowKitTokens
import Derived.LaidLaws
import Derived.LaidHandle
import Derived.Stop.Joined
import Derived.Deep.Strs
import Derived.ChangeSlices
set_option linter.unusedSimpArgs false
set_option linter.unusedVariables false
set_option maxRecDepth 100000
namespace Go.Proofs.YtnaojdjhjkendaaGreatDoor
open Go Go.Abs
variable (B : Fr)
section
def Me.setU (x : Me) (u : List UInt8) : Me := { x with u := u }
variable {s w t : List UInt8} {d : Int} {x y : Me}
theorem Me_some (hB : BOk B) (hl : s.length < big) (hd1 : -9223372036854775808 ≤ d) (hd2 : d < 9223372036854775808) (h : okMe s d = some x) : k'5 (cx B) 6 [sT s, .d (.int .i64 d)] [] (.tup [.d x.d, .d .nili]) [] := by
 have := (Me_read B hB s d hl hd1 hd2).1
 rw [h] at this; exact this
theorem Me_noneE (hB : BOk B) (hl : s.length < big) (hd1 : -9223372036854775808 ≤ d) (hd2 : d < 9223372036854775808) (h : okMe s d = none) : ∃ e : Er, EIn s.length e ∧ k'5 (cx B) 6 [sT s, .d (.int .i64 d)] [] (.tup [.d noMe.d, .d e.d]) [] := by
 have := (Me_read B hB s d hl hd1 hd2).1
 rw [h] at this; exact this
theorem firstMe_calls (hB : BOk B) : k'5 (cx B) 5 [] [] (.d (.bool true)) [] := have _ := hB; evF_ok (orB_ok B) 40 _ _ _ _ _ (by kernel_rfl)
end
section
set_option maxHeartbeats 8000000 in
theorem refMe_calls (x y : Me) (xa ya : D) (hbig : x.sz < big) (hx : x.R xa) (hy : y.R ya) : k'5 (cx B) 9 [.d xa, .d ya] [] (.d (.bool (x.eq y))) [] := by
 obtain ⟨z_nbs, l_nbs, z_his, l_his, z_ehs, l_ehs, z_sus, l_sus, z_mets, l_mets, rfl, r_nbs, r_his, r_ehs, r_sus, r_mets⟩ := hx
 obtain ⟨y_nbs, m_nbs, y_his, m_his, y_ehs, m_ehs, y_sus, m_sus, y_mets, m_mets, rfl, s_nbs, s_his, s_ehs, s_sus, s_mets⟩ := hy
 unfold Me.sz In.sz at hbig
 have c_mets := k'1s B (a := x.mets) (b := y.mets) z_mets y_mets (by omega) r_mets s_mets
 have hB9 : big = 34359738368 := rfl
 have h_nbs := sum_ge (sz := Nb.sz) (fun x => by unfold Nb.sz; omega) x.dat.nbs
 have b_nbs : (x.dat.nbs.map Nb.sz).sum < big := by omega
 have h_his := sum_ge (sz := Hi.sz) (fun x => by unfold Hi.sz; omega) x.dat.his
 have b_his : (x.dat.his.map Hi.sz).sum < big := by omega
 have h_ehs := sum_ge (sz := Eh.sz) (fun x => by unfold Eh.sz; omega) x.dat.ehs
 have b_ehs : (x.dat.ehs.map Eh.sz).sum < big := by omega
 have h_sus := sum_ge (sz := Su.sz) (fun x => by unfold Su.sz; omega) x.dat.sus
 have b_sus : (x.dat.sus.map Su.sz).sum < big := by omega
 rw [show x.eq y = ((x.name == y.name) && ((x.desc == y.desc) && ((x.unit == y.unit) && ((x.kind == y.kind) && ((x.dat.temp == y.dat.temp) && ((x.dat.mono == y.dat.mono) && ((Kv.eqs x.mets y.mets) && ((x.dat.u == y.dat.u) && ((x.u == y.u) && ((x.dat.nbs.length == y.dat.nbs.length) && ((x.dat.his.length == y.dat.his.length) && ((x.dat.ehs.length == y.dat.ehs.length) && ((x.dat.sus.length == y.dat.sus.length) && ((List.range x.dat.nbs.length).all (byI Nb.eq x.dat.nbs y.dat.nbs) && ((List.range x.dat.his.length).all (byI Hi.eq x.dat.his y.dat.his) && ((List.range x.dat.ehs.length).all (byI Eh.eq x.dat.ehs y.dat.ehs) && (List.range x.dat.sus.length).all (byI Su.eq x.dat.sus y.dat.sus))))))))))))))))) by unfold Me.eq In.eq; rw [Nb.eqs_by, Hi.eqs_by, Eh.eqs_by, Su.eqs_by]; ac_rfl]
 have g_nbs : ∀ (i : Nat) (a b : Nb), x.dat.nbs[i]? = some a → y.dat.nbs[i]? = some b → byI Nb.eq x.dat.nbs y.dat.nbs i = a.eq b := fun i a b h1 h2 => by unfold byI; rw [h1, h2]
 generalize byI Nb.eq x.dat.nbs y.dat.nbs = q_nbs at *
 have g_his : ∀ (i : Nat) (a b : Hi), x.dat.his[i]? = some a → y.dat.his[i]? = some b → byI Hi.eq x.dat.his y.dat.his i = a.eq b := fun i a b h1 h2 => by unfold byI; rw [h1, h2]
 generalize byI Hi.eq x.dat.his y.dat.his = q_his at *
 have g_ehs : ∀ (i : Nat) (a b : Eh), x.dat.ehs[i]? = some a → y.dat.ehs[i]? = some b → byI Eh.eq x.dat.ehs y.dat.ehs i = a.eq b := fun i a b h1 h2 => by unfold byI; rw [h1, h2]
 generalize byI Eh.eq x.dat.ehs y.dat.ehs = q_ehs at *
 have g_sus : ∀ (i : Nat) (a b : Su), x.dat.sus[i]? = some a → y.dat.sus[i]? = some b → byI Su.eq x.dat.sus y.dat.sus i = a.eq b := fun i a b h1 h2 => by unfold byI; rw [h1, h2]
 generalize byI Su.eq x.dat.sus y.dat.sus = q_sus at *
 refine l_bw Tryz.func9 0 [] ?_
 cases e0 : (x.name == y.name)
 ·exact O
 refine Z ?_
 cases e1 : (x.desc == y.desc)
 ·exact O
 refine Z ?_
 cases e2 : (x.unit == y.unit)
 ·exact O
 refine Z ?_
 rw [show (x.kind != y.kind) = !(x.kind == y.kind) from rfl]
 cases e3 : (x.kind == y.kind)
 ·exact O
 refine Z ?_
 rw [show (x.dat.temp != y.dat.temp) = !(x.dat.temp == y.dat.temp) from rfl]
 cases e4 : (x.dat.temp == y.dat.temp)
 ·exact O
 refine Z ?_
 try rw [show (x.dat.mono != y.dat.mono) = !(x.dat.mono == y.dat.mono) from rfl]
 cases e5 : (x.dat.mono == y.dat.mono)
 ·exact O
 refine Z ?_
 refine l_cGw [] (c_mets) rfl rfl rfl rfl rfl ?_
 cases e6 : (Kv.eqs x.mets y.mets)
 ·exact O
 refine Z ?_
 cases e7 : (x.dat.u == y.dat.u)
 ·exact O
 refine Z ?_
 cases e8 : (x.u == y.u)
 ·exact O
 refine Z ?_
 rw [show (((l_nbs).length : Int) != ((m_nbs).length : Int)) = !(x.dat.nbs.length == y.dat.nbs.length) by rw [bne, ibeq, r_nbs.1, s_nbs.1]]
 cases e9 : (x.dat.nbs.length == y.dat.nbs.length)
 ·exact O
 refine Z ?_
 rw [show (((l_his).length : Int) != ((m_his).length : Int)) = !(x.dat.his.length == y.dat.his.length) by rw [bne, ibeq, r_his.1, s_his.1]]
 cases e10 : (x.dat.his.length == y.dat.his.length)
 ·exact O
 refine Z ?_
 rw [show (((l_ehs).length : Int) != ((m_ehs).length : Int)) = !(x.dat.ehs.length == y.dat.ehs.length) by rw [bne, ibeq, r_ehs.1, s_ehs.1]]
 cases e11 : (x.dat.ehs.length == y.dat.ehs.length)
 ·exact O
 refine Z ?_
 rw [show (((l_sus).length : Int) != ((m_sus).length : Int)) = !(x.dat.sus.length == y.dat.sus.length) by rw [bne, ibeq, r_sus.1, s_sus.1]]
 cases e12 : (x.dat.sus.length == y.dat.sus.length)
 ·exact O
 refine Z ?_
 have k_nbs : x.dat.nbs.length = y.dat.nbs.length := eq_of_beq e9
 have k_his : x.dat.his.length = y.dat.his.length := eq_of_beq e10
 have k_ehs : x.dat.ehs.length = y.dat.ehs.length := eq_of_beq e11
 have k_sus : x.dat.sus.length = y.dat.sus.length := eq_of_beq e12
 refine k'y (fun i : Nat => x.dat.nbs.length - i) (fun i => [(2, .ptr 0 0), (3, .ptr 1 0), (5, iT i)]) (fun _ => [.mu [.d (.str x.name), .d (.str x.desc), .d (.str x.unit), .d (.int .i64 x.kind), .d (.int .i32 x.dat.temp), .d (.bool x.dat.mono), .d (.sl z_nbs l_nbs), .d (.sl z_his l_his), .d (.sl z_ehs l_ehs), .d (.sl z_sus l_sus), .d (.sl z_mets l_mets), .d (.str x.dat.u), .d (.str x.u)], .mu [.d (.str y.name), .d (.str y.desc), .d (.str y.unit), .d (.int .i64 y.kind), .d (.int .i32 y.dat.temp), .d (.bool y.dat.mono), .d (.sl y_nbs m_nbs), .d (.sl y_his m_his), .d (.sl y_ehs m_ehs), .d (.sl y_sus m_sus), .d (.sl y_mets m_mets), .d (.str y.dat.u), .d (.str y.u)]]) (fun i => i ≤ x.dat.nbs.length ∧ (List.range i).all q_nbs = true) 0 ⟨by omega, rfl⟩ ⟨rfl, rfl, rfl, trivial⟩ rfl 2 rfl (fun _ => rfl) (fun _ => rfl) (fun _ => rfl) ?_
 rintro i ⟨i1, i2⟩
 refine Z ?_
 refine k'1q rfl (fun hd => ?_) (fun hd => ?_)
 ·have hlt : i < x.dat.nbs.length := by have := of_decide_eq_true hd; rw [r_nbs.1] at this; omega
  obtain ⟨a', hxi⟩ : ∃ a, l_nbs[i]? = some a := ⟨_, List.getElem?_eq_getElem (by rw [r_nbs.1]; omega)⟩
  obtain ⟨b', hyi⟩ : ∃ b, m_nbs[i]? = some b := ⟨_, List.getElem?_eq_getElem (by rw [s_nbs.1]; omega)⟩
  obtain ⟨a, ha, ra⟩ := r_nbs.at hxi
  obtain ⟨b, hb, rb⟩ := s_nbs.at hyi
  have hin : (List.range x.dat.nbs.length).all q_nbs = true → q_nbs i = true := fun h => List.all_eq_true.1 h i (List.mem_range.2 hlt)
  have hri := g_nbs i a b ha hb
  have hm := k'3b (sz := Nb.sz) (List.mem_of_getElem? ha)
  have hc := refNb_calls B a b a' b' (by omega) ra rb
  rw [← hri] at hc
  obtain ⟨a0, a1, a2, a3, a4, a5, a6, a7, a8, a9, rfl⟩ := Nb.R_sh ra
  obtain ⟨b0, b1, b2, b3, b4, b5, b6, b7, b8, b9, rfl⟩ := Nb.R_sh rb
  refine Z ?_
  refine k'35 (.indexAddr (k := .i64) (n := i) (es := l_nbs) rfl rfl rfl rfl (.inl ⟨_, rfl⟩) rfl (by omega) (by simpa using hxi) rfl (by decide)) rfl rfl rfl ?_
  refine Z ?_
  refine k'35 (.indexAddr (k := .i64) (n := i) (es := m_nbs) rfl rfl rfl rfl (.inl ⟨_, rfl⟩) rfl (by omega) (by simpa using hyi) rfl (by decide)) rfl rfl rfl ?_
  refine Z ?_
  refine x_cw [] (hc) rfl rfl rfl ?_
  cases hr : q_nbs i
  ·rw [show (List.range x.dat.nbs.length).all q_nbs = false by cases hh : (List.range x.dat.nbs.length).all q_nbs with | false => rfl | true => rw [hin hh] at hr; simp at hr]
   exact O
  refine Z ?_
  rw [wS i (by omega)]
  exact ⟨i + 1, by omega, ⟨by omega, by rw [List.range_succ, List.all_append, i2]; simp [hr]⟩, ⟨rfl, rfl, rfl, trivial⟩, rfl, k'g rfl⟩
 have hge : i = x.dat.nbs.length := by have := of_decide_eq_false hd; rw [r_nbs.1] at this; omega
 subst hge
 rw [i2]
 clear i2 i1 hd
 refine Z ?_
 refine k'y (fun i : Nat => x.dat.his.length - i) (fun i => [(2, .ptr 0 0), (3, .ptr 1 0), (6, iT i)]) (fun _ => [.mu [.d (.str x.name), .d (.str x.desc), .d (.str x.unit), .d (.int .i64 x.kind), .d (.int .i32 x.dat.temp), .d (.bool x.dat.mono), .d (.sl z_nbs l_nbs), .d (.sl z_his l_his), .d (.sl z_ehs l_ehs), .d (.sl z_sus l_sus), .d (.sl z_mets l_mets), .d (.str x.dat.u), .d (.str x.u)], .mu [.d (.str y.name), .d (.str y.desc), .d (.str y.unit), .d (.int .i64 y.kind), .d (.int .i32 y.dat.temp), .d (.bool y.dat.mono), .d (.sl y_nbs m_nbs), .d (.sl y_his m_his), .d (.sl y_ehs m_ehs), .d (.sl y_sus m_sus), .d (.sl y_mets m_mets), .d (.str y.dat.u), .d (.str y.u)]]) (fun i => i ≤ x.dat.his.length ∧ (List.range i).all q_his = true) 0 ⟨by omega, rfl⟩ ⟨rfl, rfl, rfl, trivial⟩ rfl 2 rfl (fun _ => rfl) (fun _ => rfl) (fun _ => rfl) ?_
 rintro i ⟨i1, i2⟩
 refine Z ?_
 refine k'1q rfl (fun hd => ?_) (fun hd => ?_)
 ·have hlt : i < x.dat.his.length := by have := of_decide_eq_true hd; rw [r_his.1] at this; omega
  obtain ⟨a', hxi⟩ : ∃ a, l_his[i]? = some a := ⟨_, List.getElem?_eq_getElem (by rw [r_his.1]; omega)⟩
  obtain ⟨b', hyi⟩ : ∃ b, m_his[i]? = some b := ⟨_, List.getElem?_eq_getElem (by rw [s_his.1]; omega)⟩
  obtain ⟨a, ha, ra⟩ := r_his.at hxi
  obtain ⟨b, hb, rb⟩ := s_his.at hyi
  have hin : (List.range x.dat.his.length).all q_his = true → q_his i = true := fun h => List.all_eq_true.1 h i (List.mem_range.2 hlt)
  have hri := g_his i a b ha hb
  have hm := k'3b (sz := Hi.sz) (List.mem_of_getElem? ha)
  have hc := refHi_calls B a b a' b' (by omega) ra rb
  rw [← hri] at hc
  obtain ⟨a0, a1, a2, a3, a4, a5, a6, a7, a8, a9, a10, a11, a12, a13, a14, a15, a16, a17, a18, rfl⟩ := Hi.R_sh ra
  obtain ⟨b0, b1, b2, b3, b4, b5, b6, b7, b8, b9, b10, b11, b12, b13, b14, b15, b16, b17, b18, rfl⟩ := Hi.R_sh rb
  refine Z ?_
  refine k'35 (.indexAddr (k := .i64) (n := i) (es := l_his) rfl rfl rfl rfl (.inl ⟨_, rfl⟩) rfl (by omega) (by simpa using hxi) rfl (by decide)) rfl rfl rfl ?_
  refine Z ?_
  refine k'35 (.indexAddr (k := .i64) (n := i) (es := m_his) rfl rfl rfl rfl (.inl ⟨_, rfl⟩) rfl (by omega) (by simpa using hyi) rfl (by decide)) rfl rfl rfl ?_
  refine Z ?_
  refine x_cw [] (hc) rfl rfl rfl ?_
  cases hr : q_his i
  ·rw [show (List.range x.dat.his.length).all q_his = false by cases hh : (List.range x.dat.his.length).all q_his with | false => rfl | true => rw [hin hh] at hr; simp at hr]
   exact O
  refine Z ?_
  rw [wS i (by omega)]
  exact ⟨i + 1, by omega, ⟨by omega, by rw [List.range_succ, List.all_append, i2]; simp [hr]⟩, ⟨rfl, rfl, rfl, trivial⟩, rfl, k'g rfl⟩
 have hge : i = x.dat.his.length := by have := of_decide_eq_false hd; rw [r_his.1] at this; omega
 subst hge
 rw [i2]
 clear i2 i1 hd
 refine Z ?_
 refine k'y (fun i : Nat => x.dat.ehs.length - i) (fun i => [(2, .ptr 0 0), (3, .ptr 1 0), (7, iT i)]) (fun _ => [.mu [.d (.str x.name), .d (.str x.desc), .d (.str x.unit), .d (.int .i64 x.kind), .d (.int .i32 x.dat.temp), .d (.bool x.dat.mono), .d (.sl z_nbs l_nbs), .d (.sl z_his l_his), .d (.sl z_ehs l_ehs), .d (.sl z_sus l_sus), .d (.sl z_mets l_mets), .d (.str x.dat.u), .d (.str x.u)], .mu [.d (.str y.name), .d (.str y.desc), .d (.str y.unit), .d (.int .i64 y.kind), .d (.int .i32 y.dat.temp), .d (.bool y.dat.mono), .d (.sl y_nbs m_nbs), .d (.sl y_his m_his), .d (.sl y_ehs m_ehs), .d (.sl y_sus m_sus), .d (.sl y_mets m_mets), .d (.str y.dat.u), .d (.str y.u)]]) (fun i => i ≤ x.dat.ehs.length ∧ (List.range i).all q_ehs = true) 0 ⟨by omega, rfl⟩ ⟨rfl, rfl, rfl, trivial⟩ rfl 2 rfl (fun _ => rfl) (fun _ => rfl) (fun _ => rfl) ?_
 rintro i ⟨i1, i2⟩
 refine Z ?_
 refine k'1q rfl (fun hd => ?_) (fun hd => ?_)
 ·have hlt : i < x.dat.ehs.length := by have := of_decide_eq_true hd; rw [r_ehs.1] at this; omega
  obtain ⟨a', hxi⟩ : ∃ a, l_ehs[i]? = some a := ⟨_, List.getElem?_eq_getElem (by rw [r_ehs.1]; omega)⟩
  obtain ⟨b', hyi⟩ : ∃ b, m_ehs[i]? = some b := ⟨_, List.getElem?_eq_getElem (by rw [s_ehs.1]; omega)⟩
  obtain ⟨a, ha, ra⟩ := r_ehs.at hxi
  obtain ⟨b, hb, rb⟩ := s_ehs.at hyi
  have hin : (List.range x.dat.ehs.length).all q_ehs = true → q_ehs i = true := fun h => List.all_eq_true.1 h i (List.mem_range.2 hlt)
  have hri := g_ehs i a b ha hb
  have hm := k'3b (sz := Eh.sz) (List.mem_of_getElem? ha)
  have hc := refEh_calls B a b a' b' (by omega) ra rb
  rw [← hri] at hc
  obtain ⟨a0, a1, a2, a3, a4, a5, a6, a7, a8, a9, a10, a11, a12, a13, a14, a15, a16, a17, a18, a19, a20, a21, a22, a23, a24, a25, a26, a27, rfl⟩ := Eh.R_sh ra
  obtain ⟨b0, b1, b2, b3, b4, b5, b6, b7, b8, b9, b10, b11, b12, b13, b14, b15, b16, b17, b18, b19, b20, b21, b22, b23, b24, b25, b26, b27, rfl⟩ := Eh.R_sh rb
  refine Z ?_
  refine k'35 (.indexAddr (k := .i64) (n := i) (es := l_ehs) rfl rfl rfl rfl (.inl ⟨_, rfl⟩) rfl (by omega) (by simpa using hxi) rfl (by decide)) rfl rfl rfl ?_
  refine Z ?_
  refine k'35 (.indexAddr (k := .i64) (n := i) (es := m_ehs) rfl rfl rfl rfl (.inl ⟨_, rfl⟩) rfl (by omega) (by simpa using hyi) rfl (by decide)) rfl rfl rfl ?_
  refine Z ?_
  refine x_cw [] (hc) rfl rfl rfl ?_
  cases hr : q_ehs i
  ·rw [show (List.range x.dat.ehs.length).all q_ehs = false by cases hh : (List.range x.dat.ehs.length).all q_ehs with | false => rfl | true => rw [hin hh] at hr; simp at hr]
   exact O
  refine Z ?_
  rw [wS i (by omega)]
  exact ⟨i + 1, by omega, ⟨by omega, by rw [List.range_succ, List.all_append, i2]; simp [hr]⟩, ⟨rfl, rfl, rfl, trivial⟩, rfl, k'g rfl⟩
 have hge : i = x.dat.ehs.length := by have := of_decide_eq_false hd; rw [r_ehs.1] at this; omega
 subst hge
 rw [i2]
 clear i2 i1 hd
 refine Z ?_
 refine k'y (fun i : Nat => x.dat.sus.length - i) (fun i => [(2, .ptr 0 0), (3, .ptr 1 0), (8, iT i)]) (fun _ => [.mu [.d (.str x.name), .d (.str x.desc), .d (.str x.unit), .d (.int .i64 x.kind), .d (.int .i32 x.dat.temp), .d (.bool x.dat.mono), .d (.sl z_nbs l_nbs), .d (.sl z_his l_his), .d (.sl z_ehs l_ehs), .d (.sl z_sus l_sus), .d (.sl z_mets l_mets), .d (.str x.dat.u), .d (.str x.u)], .mu [.d (.str y.name), .d (.str y.desc), .d (.str y.unit), .d (.int .i64 y.kind), .d (.int .i32 y.dat.temp), .d (.bool y.dat.mono), .d (.sl y_nbs m_nbs), .d (.sl y_his m_his), .d (.sl y_ehs m_ehs), .d (.sl y_sus m_sus), .d (.sl y_mets m_mets), .d (.str y.dat.u), .d (.str y.u)]]) (fun i => i ≤ x.dat.sus.length ∧ (List.range i).all q_sus = true) 0 ⟨by omega, rfl⟩ ⟨rfl, rfl, rfl, trivial⟩ rfl 2 rfl (fun _ => rfl) (fun _ => rfl) (fun _ => rfl) ?_
 rintro i ⟨i1, i2⟩
 refine Z ?_
 refine k'1q rfl (fun hd => ?_) (fun hd => ?_)
 ·have hlt : i < x.dat.sus.length := by have := of_decide_eq_true hd; rw [r_sus.1] at this; omega
  obtain ⟨a', hxi⟩ : ∃ a, l_sus[i]? = some a := ⟨_, List.getElem?_eq_getElem (by rw [r_sus.1]; omega)⟩
  obtain ⟨b', hyi⟩ : ∃ b, m_sus[i]? = some b := ⟨_, List.getElem?_eq_getElem (by rw [s_sus.1]; omega)⟩
  obtain ⟨a, ha, ra⟩ := r_sus.at hxi
  obtain ⟨b, hb, rb⟩ := s_sus.at hyi
  have hin : (List.range x.dat.sus.length).all q_sus = true → q_sus i = true := fun h => List.all_eq_true.1 h i (List.mem_range.2 hlt)
  have hri := g_sus i a b ha hb
  have hm := k'3b (sz := Su.sz) (List.mem_of_getElem? ha)
  have hc := refSu_calls B a b a' b' (by omega) ra rb
  rw [← hri] at hc
  obtain ⟨a0, a1, a2, a3, a4, a5, a6, a7, a8, a9, rfl⟩ := Su.R_sh ra
  obtain ⟨b0, b1, b2, b3, b4, b5, b6, b7, b8, b9, rfl⟩ := Su.R_sh rb
  refine Z ?_
  refine k'35 (.indexAddr (k := .i64) (n := i) (es := l_sus) rfl rfl rfl rfl (.inl ⟨_, rfl⟩) rfl (by omega) (by simpa using hxi) rfl (by decide)) rfl rfl rfl ?_
  refine Z ?_
  refine k'35 (.indexAddr (k := .i64) (n := i) (es := m_sus) rfl rfl rfl rfl (.inl ⟨_, rfl⟩) rfl (by omega) (by simpa using hyi) rfl (by decide)) rfl rfl rfl ?_
  refine Z ?_
  refine x_cw [] (hc) rfl rfl rfl ?_
  cases hr : q_sus i
  ·rw [show (List.range x.dat.sus.length).all q_sus = false by cases hh : (List.range x.dat.sus.length).all q_sus with | false => rfl | true => rw [hin hh] at hr; simp at hr]
   exact O
  refine Z ?_
  rw [wS i (by omega)]
  exact ⟨i + 1, by omega, ⟨by omega, by rw [List.range_succ, List.all_append, i2]; simp [hr]⟩, ⟨rfl, rfl, rfl, trivial⟩, rfl, k'g rfl⟩
 have hge : i = x.dat.sus.length := by have := of_decide_eq_false hd; rw [r_sus.1] at this; omega
 subst hge
 rw [i2]
 clear i2 i1 hd
 exact O
end
section
theorem MetricReads_law (hB : BOk B) (s : List UInt8) (hs : s.length ≤ 9223372036854775807) (d : Int) (hd1 : -9223372036854775808 ≤ d) (hd2 : d < 9223372036854775808) :
  k'5 (cx B) 3 [sT s, .d (.int .i64 d)] [] (.d (.bool true)) [] := by
 have hf := firstMe_calls B hB
 refine l_bw Tryz.func3 0 [] ?_
 refine l_cw [] (hf) rfl rfl rfl ?_
 by_cases h1 : s.length > 6000
 ·rw [show decide ((s.length : Int) > 6000) = true from decide_eq_true (by omega)]
  refine Z ?_
  refine k'8 [] (hf) rfl rfl rfl ?_
  exact O
 rw [show decide ((s.length : Int) > 6000) = false from decide_eq_false (by omega)]
 refine Z ?_
 have b1 : s.length < big := by unfold big; omega
 have c2 := ReadMe_calls B s d b1 hd1 hd2
 unfold rMeT at c2
 cases hx : okMe s d with
 | some x =>
  have c1 := Me_some B hB b1 hd1 hd2 hx
  obtain ⟨hmay, hwf, hsz⟩ := Me_told _ _ _ hx
  have c3 := refMe_calls B x x x.d x.d (by unfold big; omega) x.d_R x.d_R
  rw [Me.eq_self] at c3
  rw [hx] at c2
  dsimp only at c2
  refine l_cw [] (c1) rfl rfl rfl ?_
  refine l_cw [] (c2) rfl rfl rfl ?_
  refine l_cw [] (hf) rfl rfl rfl ?_
  refine k'2x [] (c3) rfl rfl rfl rfl rfl ?_
  exact O
 | none =>
  obtain ⟨e, hin, c1⟩ := Me_noneE B hB b1 hd1 hd2 hx
  have c4 := wrong_calls B hB e s.length b1 hin
  have c3 := refMe_calls B noMe noMe noMe.d noMe.d (by unfold big; decide) Me.R_no Me.R_no
  rw [Me.eq_self] at c3
  rw [hx] at c2
  dsimp only at c2
  obtain ⟨T, y, hy⟩ := er_iface e
  rw [hy] at c1 c4
  refine l_cw [] (c1) rfl rfl rfl ?_
  refine l_cw [] (c2) rfl rfl rfl ?_
  refine l_cw [] (hf) rfl rfl rfl ?_
  refine l_cGw [] (c4) rfl rfl rfl rfl rfl ?_
  refine k'2x [] (c3) rfl rfl rfl rfl rfl ?_
  exact O
end
section
open Go Go.Abs Go.ChangeShapes Go.WideShapes Go.RowKit
theorem l_own : ownKnob Tryz.prog.godebug = none := by kernel_rfl
theorem l_et : Tryz.prog.globalNamed "errors.errorType" = some 0 := by kernel_rfl
theorem l_rt : (Tryz.prog.cutTypes.find? (·.1 == "internal/reflectlite.rtype")).map (·.2) = some 316 := by kernel_rfl
theorem l_size : Tryz.prog.types.size = 422 := by kernel_rfl
theorem l_oneRow : ((List.range 422).filter fun t => Tryz.prog.rowNamed t [101, 114, 114, 111, 114]) = [31] := by kernel_rfl
theorem l_laidOut : laidOutB Tryz.prog = true := by kernel_rfl
theorem l_handle {W : World} (h : laidMetH Tryz.prog [("errors.errorType", Rows.laid_errors_errorType)] W) : W.cell? ⟨0, 0, none⟩ = some (rty 31) := by
 have h' : laidMet Tryz.prog [] W ∧ handlesMet Tryz.prog [("errors.errorType", Rows.laid_errors_errorType)] W := h
 obtain ⟨name, u, ty, e1, e2, e3, e4, e5⟩ := h'.2 _ (List.mem_singleton.2 rfl)
 have en : name = [101, 114, 114, 111, 114] := (Option.some.inj e1).symm
 subst en
 obtain rfl := Option.some.inj (l_rt.symm.trans e2)
 have hm : ty ∈ (List.range 422).filter fun t => Tryz.prog.rowNamed t [101, 114, 114, 111, 114] := List.mem_filter.2 ⟨List.mem_range.2 (by rw [← l_size]; exact e3), e4⟩
 rw [l_oneRow] at hm
 obtain rfl := List.mem_singleton.1 hm
 have hh : typeHandle Tryz.prog 31 = hnd 31 := by kernel_rfl
 rw [hh] at e5
 simpa using World.var?_cell l_et e5 0
noncomputable def laidWorld (os : Os) : World :=
 let w0 := World.holding Tryz.prog os ⟨#[], #[], []⟩
 { w0 with heap := w0.heap.modify 0 fun
   | .cells _ t frozen => .cells #[rty 31] t frozen
   | o => o }
theorem laidWorld_met (os : Os) (args : Array Value) : laidMetH Tryz.prog [("errors.errorType", Rows.laid_errors_errorType)] ((laidWorld os).forCall (fun _ _ => 0) ⟨#[], args, []⟩).memory :=
 laidMetH_of_parts (laidMet_nil _ _) (by kernel_rfl)
theorem keptBut_of_heap {w w' : World} (ho : w'.os = w.os) (hu : w'.output = w.output) (h : ∀ b, b < w.heap.size → w'.heap[b]? = w.heap[b]?) (may : MemPlace → Prop) : w.keptBut w' may := by
 refine ⟨ho, hu, fun i hi => ?_⟩
 rw [h i hi]
 have := (World.keptBut_refl w may).2.2 i hi
 exact this
section
variable {H : Type} {enc : TypeId × Value → H}
theorem trod_keep {W W' : World} (h : ∀ b, b < W.heap.size → W'.heap[b]? = W.heap[b]?) {t : TypeId} (hr : Tryz.prog.readableRec t = true) (ht : t < Tryz.prog.types.size) {v : Value} {d : DataW H} {p : List MemPlace} (hT : DataW.Trod enc Tryz.prog W 0 (fun _ => true) true t v d p) (sp : Nat → Bool) (hs : ∀ q ∈ p, sp q.block = true) : DataW.Trod enc Tryz.prog W' 0 sp true t v d p := by
 obtain ⟨fuel, hf⟩ := hT
 refine ⟨fuel, DataW.trod_stays (kids_book l_laidOut hr) (book_sized hr) (fun h => by cases h) ⟨ht, book_self t⟩ hf (fun q hq => ?_) hs⟩
 have hl := DataW.trod_lt _ _ _ _ hf q hq
 cases q with
 | cell b off => show W'.cell? ⟨b, off, none⟩ = W.cell? ⟨b, off, none⟩; unfold World.cell?; rw [h b hl]
 | map b => exact h b hl
theorem trodAll_keep {W W' : World} (h : ∀ b, b < W.heap.size → W'.heap[b]? = W.heap[b]?) : ∀ {ts : List TypeId} {vs : List Value} {ds : List (DataW H)} {p : List MemPlace}, (∀ t ∈ ts, Tryz.prog.readableRec t = true ∧ t < Tryz.prog.types.size) → DataW.TrodAll enc Tryz.prog W 0 (fun _ => true) true ts vs ds p → ∀ sp : Nat → Bool, (∀ q ∈ p, sp q.block = true) → DataW.TrodAll enc Tryz.prog W' 0 sp true ts vs ds p
 | [], _, _, _, _, hT, sp, hs => by
  obtain ⟨rfl, rfl, rfl⟩ := trodAll_nil hT
  rfl
 | t :: ts, _, _, _, hr, hT, sp, hs => by
  obtain ⟨v, vs1, d, ds1, a, b, rfl, rfl, rfl, h1, h2⟩ := trodAll_cons hT
  exact ⟨a, b, trod_keep h (hr t (by simp)).1 (hr t (by simp)).2 h1 sp (fun q hq => hs q (by simp [hq])), trodAll_keep h (fun t ht => hr t (by simp [ht])) h2 sp (fun q hq => hs q (by simp [hq])), rfl⟩
theorem post_law {f : Func} {s : ChangeSpec} {apart fresh handsOn again : Bool} {W W' : World} {args : Array Value} {ds gs : List (DataW H)} {before : List MemPlace}
  (hW : DataW.Whole enc Tryz.prog f.params.toList s.vars apart W args.toList ds gs before) (hv : s.vars = []) (hr : f.resultTypes = #[4]) (hs : s.fn H ds = { results := [.lit (.bool true)], args := ds })
  (hread : ∀ t ∈ f.params.toList, Tryz.prog.readableRec t = true ∧ t < Tryz.prog.types.size) (h : ∀ b, b < W.heap.size → W'.heap[b]? = W.heap[b]?) (ho : W'.os = W.os) (hu : W'.output = W.output) :
  s.post enc Tryz.prog f apart fresh handsOn again W args (.bool true) W' := by
 have hW0 := hW
 obtain ⟨p, q, hA, hV, rfl, hfz, hnd⟩ := hW
 rw [hv] at hV
 obtain ⟨rfl, rfl⟩ : gs = [] ∧ q = [] := by
  cases gs with
  | nil => exact ⟨rfl, hV⟩
  | cons g r => exact absurd hV (by intro h; cases h)
 have hlt := hW0.lt
 have hold : ∀ x ∈ p, (fun b => decide (b < W.heap.size)) x.block = true := fun x hx => by simpa using hlt x (by simp [hx])
 have hres : ∀ (b : Nat) (sp : Nat → Bool) (hd : Bool), DataW.TrodAll enc Tryz.prog W' b sp hd f.resultTypes.toList ((Value.bool true).resultList f.resultTypes.size) (s.fn H (ds ++ [])).results [] := by
  intro b sp hd
  rw [List.append_nil, hs, hr]
  exact trodAll_mk1 (shut_bool (by kernel_rfl) true)
 have hargs : ∀ sp : Nat → Bool, (∀ x ∈ p, sp x.block = true) → DataW.TrodAll enc Tryz.prog W' 0 sp true f.params.toList args.toList (s.fn H (ds ++ [])).args p := by
  intro sp hsp
  rw [List.append_nil, hs]
  exact trodAll_keep h hread hA sp hsp
 have hvars : ∀ sp : Nat → Bool, DataW.TrodVars enc Tryz.prog W' sp s.vars (s.fn H (ds ++ [])).vars [] := by
  intro sp
  rw [List.append_nil, hs, hv]; rfl
 refine ⟨ds, [], p ++ [], [], p, [], hW0, hres _ _ _, hargs _ hold, hvars _, World.keptBut_mono (fun x hx => hx) (keptBut_of_heap ho hu h _), fun _ => ?_⟩
 refine ⟨?_, _, _, ([] ++ p) ++ [], ⟨[] ++ p, [], trodAll_append (hargs _ (fun _ _ => rfl)) (hres _ _ _), hvars _, rfl, ?_, ?_⟩, ?_⟩
 ·intro j t r h1 h2
  rw [hr] at h1 h2
  rcases j with _ | j
  ·simp [Value.resultList] at h1 h2
   subst h1; subst h2
   have hb : Tryz.prog.underlying 4 = some .bool := by kernel_rfl
   simp [Value.okWide, hb, Cell.okWide, Cell.ok]
  ·simp at h1
 ·intro b off hp
  have hp' : MemPlace.cell b off ∈ p := by simpa using hp
  have hb := hlt (.cell b off) (by simpa using hp')
  have := hfz b off (by simpa using hp')
  unfold World.frozen? at this ⊢
  rw [h b hb]; exact this
 ·intro ha
  have := hnd ha
  simpa using this
 ·intro x hx _
  simpa using hx
end
noncomputable def BL : Fr := fun b off => if b = 0 ∧ off = 0 then some (rty 31) else none
theorem BL_ok : BOk BL := by unfold BOk BL; simp
theorem law_calls {f : FuncId} {args : List T} {vs : List Value} {W : World} (hg : W.cell? ⟨0, 0, none⟩ = some (rty 31)) (h : k'5 (cx BL) f args [] (.d (.bool true)) [])
  (ha : TRs (fun b off => W.cell? ⟨b, off, none⟩) (fun _ => .free) W (.tmp 0) args vs) : Calls Tryz.prog f vs.toArray W fun e W' => e = .returned (.bool true) ∧ (∀ b, b < W.heap.size → W'.heap[b]? = W.heap[b]?) ∧ W'.os = W.os ∧ W'.output = W.output := by
 have hw : WR (fun b off => W.cell? ⟨b, off, none⟩) (fun _ => .free) W [] := ⟨fun _ _ _ e => e, fun b e => absurd rfl e, fun b i e => by simp at e, fun b c i e => by simp at e⟩
 refine (h.2 _ _ W vs hw ha (fun b t => by simp) (fun b off v e => ?_)).mono fun e W' hp => ?_
 ·show W.cell? ⟨b, off, none⟩ = some v
  have e' : BL b off = some v := e
  unfold BL at e'
  split at e'
  ·rename_i hc
   obtain ⟨rfl, rfl⟩ := hc
   rw [← e']; exact hg
  ·simp at e'
 ·obtain ⟨v, F', ρ', rfl, -, hv, hx, -⟩ := hp
  cases hv with
  | d hv => cases hv; exact ⟨rfl, fun b hb => (hx.free b hb rfl).2.1, hx.os, hx.output⟩
theorem dr_str {F : Fr} (a : ByteArray) : DR F (.str a.data.toList) (.string a) := by
 have := DR.str (F := F) a.data.toList
 simpa using this
theorem ba_len {a : ByteArray} (h : a.size ≤ maxLen) : a.data.toList.length ≤ 9223372036854775807 := by
 have e : a.data.toList.length = a.size := by rw [Array.length_toList]; rfl
 rw [e]
 exact Nat.le_trans h (by show 2 ^ 63 - 1 ≤ 9223372036854775807; omega)
theorem i64_wf {n : Int} (h : (Lit.int .i64 n).wf = true) : -9223372036854775808 ≤ n ∧ n < 9223372036854775808 := by
 simp only [Lit.wf, Bool.and_eq_true, decide_eq_true_eq] at h
 have h1 : IntKind.i64.min = -9223372036854775808 := by decide
 have h2 : IntKind.i64.max = 9223372036854775807 := by decide
 rw [h1, h2] at h
 omega
end
section
open Go Go.Abs Go.ChangeShapes Go.WideShapes Go.RowKit
end
