/- Metrics: the reference tells if two are alike. -/
import Derived.Test.YtmnllpkbjkenfaaGreatDoorSS
import Derived.Test.YtmnllpkbjkenfaaGreatDoorQS
import Derived.Test.YtmnllpkbjkenfaaGreatDoorMW
set_option linter.unusedSimpArgs false
set_option linter.unusedVariables false
set_option maxRecDepth 100000
namespace Go.Proofs.YtmnllpkbjkenfaaGreatDoor
open Go Go.Abs
variable (B : Fr)
set_option maxHeartbeats 8000000 in
theorem refMe_calls (x y : Me) (xa ya : D) (hbig : x.sz < big) (hx : x.R xa) (hy : y.R ya) : k'1 (cx B) 20 [.d xa, .d ya] [] (.d (.bool (x.eq y))) [] := by
 obtain ⟨z_nbs, l_nbs, z_his, l_his, z_ehs, l_ehs, z_sus, l_sus, z_mets, l_mets, rfl, r_nbs, r_his, r_ehs, r_sus, r_mets⟩ := hx
 obtain ⟨y_nbs, m_nbs, y_his, m_his, y_ehs, m_ehs, y_sus, m_sus, y_mets, m_mets, rfl, s_nbs, s_his, s_ehs, s_sus, s_mets⟩ := hy
 unfold Me.sz In.sz at hbig
 have c_mets := k'1r B (a := x.mets) (b := y.mets) z_mets y_mets (by omega) r_mets s_mets
 have hB9 : big = 34359738368 := rfl
 have h_nbs := sum_ge (sz := Nb.sz) (fun x => by unfold Nb.sz; omega) x.dat.nbs
 have b_nbs : (x.dat.nbs.map Nb.sz).sum < big := by omega
 have h_his := sum_ge (sz := Hi.sz) (fun x => by unfold Hi.sz; omega) x.dat.his
 have b_his : (x.dat.his.map Hi.sz).sum < big := by omega
 have h_ehs := sum_ge (sz := Eh.sz) (fun x => by unfold Eh.sz; omega) x.dat.ehs
 have b_ehs : (x.dat.ehs.map Eh.sz).sum < big := by omega
 have h_sus := sum_ge (sz := Su.sz) (fun x => by unfold Su.sz; omega) x.dat.sus
 have b_sus : (x.dat.sus.map Su.sz).sum < big := by omega
 rw [show x.eq y = ((x.name == y.name) && ((x.desc == y.desc) && ((x.unit == y.unit) && ((x.kind == y.kind) && ((x.dat.temp == y.dat.temp) && ((x.dat.mono == y.dat.mono) && ((Kv.eqs x.mets y.mets) && ((x.dat.u == y.dat.u) && ((x.u == y.u) && ((x.dat.nbs.length == y.dat.nbs.length) && ((x.dat.his.length == y.dat.his.length) && ((x.dat.ehs.length == y.dat.ehs.length) && ((x.dat.sus.length == y.dat.sus.length) && ((List.range x.dat.nbs.length).all (byI Nb.eq x.dat.nbs y.dat.nbs) && ((List.range x.dat.his.length).all (byI Hi.eq x.dat.his y.dat.his) && ((List.range x.dat.ehs.length).all (byI Eh.eq x.dat.ehs y.dat.ehs) && (List.range x.dat.sus.length).all (byI Su.eq x.dat.sus y.dat.sus))))))))))))))))) by unfold Me.eq In.eq; rw [Nb.eqs_by, Hi.eqs_by, Eh.eqs_by, Su.eqs_by]; ac_rfl]
 have g_nbs : ∀ (i : Nat) (a b : Nb), x.dat.nbs[i]? = some a → y.dat.nbs[i]? = some b → byI Nb.eq x.dat.nbs y.dat.nbs i = a.eq b := fun i a b h1 h2 => by unfold byI; rw [h1, h2]
 generalize byI Nb.eq x.dat.nbs y.dat.nbs = q_nbs at *
 have g_his : ∀ (i : Nat) (a b : Hi), x.dat.his[i]? = some a → y.dat.his[i]? = some b → byI Hi.eq x.dat.his y.dat.his i = a.eq b := fun i a b h1 h2 => by unfold byI; rw [h1, h2]
 generalize byI Hi.eq x.dat.his y.dat.his = q_his at *
 have g_ehs : ∀ (i : Nat) (a b : Eh), x.dat.ehs[i]? = some a → y.dat.ehs[i]? = some b → byI Eh.eq x.dat.ehs y.dat.ehs i = a.eq b := fun i a b h1 h2 => by unfold byI; rw [h1, h2]
 generalize byI Eh.eq x.dat.ehs y.dat.ehs = q_ehs at *
 have g_sus : ∀ (i : Nat) (a b : Su), x.dat.sus[i]? = some a → y.dat.sus[i]? = some b → byI Su.eq x.dat.sus y.dat.sus i = a.eq b := fun i a b h1 h2 => by unfold byI; rw [h1, h2]
 generalize byI Su.eq x.dat.sus y.dat.sus = q_sus at *
 refine k'2 (X := cx B) (fn := Tryz.f20) Tryz.func20 rfl rfl rfl rfl rfl 0 [] rfl rfl ?_
 refine Y ?_
 cases e0 : (x.name == y.name)
 ·exact Z
 refine Y ?_
 cases e1 : (x.desc == y.desc)
 ·exact Z
 refine Y ?_
 cases e2 : (x.unit == y.unit)
 ·exact Z
 refine Y ?_
 rw [show (x.kind != y.kind) = !(x.kind == y.kind) from rfl]
 cases e3 : (x.kind == y.kind)
 ·exact Z
 refine Y ?_
 rw [show (x.dat.temp != y.dat.temp) = !(x.dat.temp == y.dat.temp) from rfl]
 cases e4 : (x.dat.temp == y.dat.temp)
 ·exact Z
 refine Y ?_
 try rw [show (x.dat.mono != y.dat.mono) = !(x.dat.mono == y.dat.mono) from rfl]
 cases e5 : (x.dat.mono == y.dat.mono)
 ·exact Z
 refine Y ?_
 refine k'1c [] (c_mets) rfl rfl rfl rfl rfl ?_
 cases e6 : (Kv.eqs x.mets y.mets)
 ·exact Z
 refine Y ?_
 cases e7 : (x.dat.u == y.dat.u)
 ·exact Z
 refine Y ?_
 cases e8 : (x.u == y.u)
 ·exact Z
 refine Y ?_
 rw [show (((l_nbs).length : Int) != ((m_nbs).length : Int)) = !(x.dat.nbs.length == y.dat.nbs.length) by rw [bne, ibeq, r_nbs.1, s_nbs.1]]
 cases e9 : (x.dat.nbs.length == y.dat.nbs.length)
 ·exact Z
 refine Y ?_
 rw [show (((l_his).length : Int) != ((m_his).length : Int)) = !(x.dat.his.length == y.dat.his.length) by rw [bne, ibeq, r_his.1, s_his.1]]
 cases e10 : (x.dat.his.length == y.dat.his.length)
 ·exact Z
 refine Y ?_
 rw [show (((l_ehs).length : Int) != ((m_ehs).length : Int)) = !(x.dat.ehs.length == y.dat.ehs.length) by rw [bne, ibeq, r_ehs.1, s_ehs.1]]
 cases e11 : (x.dat.ehs.length == y.dat.ehs.length)
 ·exact Z
 refine Y ?_
 rw [show (((l_sus).length : Int) != ((m_sus).length : Int)) = !(x.dat.sus.length == y.dat.sus.length) by rw [bne, ibeq, r_sus.1, s_sus.1]]
 cases e12 : (x.dat.sus.length == y.dat.sus.length)
 ·exact Z
 refine Y ?_
 have k_nbs : x.dat.nbs.length = y.dat.nbs.length := eq_of_beq e9
 have k_his : x.dat.his.length = y.dat.his.length := eq_of_beq e10
 have k_ehs : x.dat.ehs.length = y.dat.ehs.length := eq_of_beq e11
 have k_sus : x.dat.sus.length = y.dat.sus.length := eq_of_beq e12
 refine k'k (fun i : Nat => x.dat.nbs.length - i) (fun i => [(2, .ptr 0 0), (3, .ptr 1 0), (5, iT i)]) (fun _ => [.mu [.d (.str x.name), .d (.str x.desc), .d (.str x.unit), .d (.int .i64 x.kind), .d (.int .i32 x.dat.temp), .d (.bool x.dat.mono), .d (.sl z_nbs l_nbs), .d (.sl z_his l_his), .d (.sl z_ehs l_ehs), .d (.sl z_sus l_sus), .d (.sl z_mets l_mets), .d (.str x.dat.u), .d (.str x.u)], .mu [.d (.str y.name), .d (.str y.desc), .d (.str y.unit), .d (.int .i64 y.kind), .d (.int .i32 y.dat.temp), .d (.bool y.dat.mono), .d (.sl y_nbs m_nbs), .d (.sl y_his m_his), .d (.sl y_ehs m_ehs), .d (.sl y_sus m_sus), .d (.sl y_mets m_mets), .d (.str y.dat.u), .d (.str y.u)]]) (fun i => i ≤ x.dat.nbs.length ∧ (List.range i).all q_nbs = true) 0 ⟨by omega, rfl⟩ ⟨rfl, rfl, rfl, trivial⟩ rfl 2 rfl (fun _ => rfl) (fun _ => rfl) (fun _ => rfl) ?_
 rintro i ⟨i1, i2⟩
 refine Y ?_
 refine k'z rfl (fun hd => ?_) (fun hd => ?_)
 ·have hlt : i < x.dat.nbs.length := by have := of_decide_eq_true hd; rw [r_nbs.1] at this; omega
  obtain ⟨a', hxi⟩ : ∃ a, l_nbs[i]? = some a := ⟨_, List.getElem?_eq_getElem (by rw [r_nbs.1]; omega)⟩
  obtain ⟨b', hyi⟩ : ∃ b, m_nbs[i]? = some b := ⟨_, List.getElem?_eq_getElem (by rw [s_nbs.1]; omega)⟩
  obtain ⟨a, ha, ra⟩ := r_nbs.at hxi
  obtain ⟨b, hb, rb⟩ := s_nbs.at hyi
  have hin : (List.range x.dat.nbs.length).all q_nbs = true → q_nbs i = true := fun h => List.all_eq_true.1 h i (List.mem_range.2 hlt)
  have hri := g_nbs i a b ha hb
  have hm := k'2b (sz := Nb.sz) (List.mem_of_getElem? ha)
  have hc := refNb_calls B a b a' b' (by omega) ra rb
  rw [← hri] at hc
  obtain ⟨a0, a1, a2, a3, a4, a5, a6, a7, a8, a9, rfl⟩ := Nb.R_sh ra
  obtain ⟨b0, b1, b2, b3, b4, b5, b6, b7, b8, b9, rfl⟩ := Nb.R_sh rb
  refine Y ?_
  refine k'4l (.indexAddr (k := .i64) (n := i) (es := l_nbs) rfl rfl rfl rfl (.inl ⟨_, rfl⟩) rfl (by omega) (by simpa using hxi) rfl (by decide)) rfl rfl rfl ?_
  refine Y ?_
  refine k'4l (.indexAddr (k := .i64) (n := i) (es := m_nbs) rfl rfl rfl rfl (.inl ⟨_, rfl⟩) rfl (by omega) (by simpa using hyi) rfl (by decide)) rfl rfl rfl ?_
  refine Y ?_
  refine x_cw [] (hc) rfl rfl rfl ?_
  cases hr : q_nbs i
  ·rw [show (List.range x.dat.nbs.length).all q_nbs = false by cases hh : (List.range x.dat.nbs.length).all q_nbs with | false => rfl | true => rw [hin hh] at hr; simp at hr]
   exact Z
  refine Y ?_
  rw [show IntKind.i64.wrap ((i : Int) + 1) = ((i + 1 : Nat) : Int) by rw [k'1a (by omega) (by omega)]; omega]
  exact ⟨i + 1, by omega, ⟨by omega, by rw [List.range_succ, List.all_append, i2]; simp [hr]⟩, ⟨rfl, rfl, rfl, trivial⟩, rfl, k'1m rfl⟩
 have hge : i = x.dat.nbs.length := by have := of_decide_eq_false hd; rw [r_nbs.1] at this; omega
 subst hge
 rw [i2]
 clear i2 i1 hd
 refine Y ?_
 refine k'k (fun i : Nat => x.dat.his.length - i) (fun i => [(2, .ptr 0 0), (3, .ptr 1 0), (6, iT i)]) (fun _ => [.mu [.d (.str x.name), .d (.str x.desc), .d (.str x.unit), .d (.int .i64 x.kind), .d (.int .i32 x.dat.temp), .d (.bool x.dat.mono), .d (.sl z_nbs l_nbs), .d (.sl z_his l_his), .d (.sl z_ehs l_ehs), .d (.sl z_sus l_sus), .d (.sl z_mets l_mets), .d (.str x.dat.u), .d (.str x.u)], .mu [.d (.str y.name), .d (.str y.desc), .d (.str y.unit), .d (.int .i64 y.kind), .d (.int .i32 y.dat.temp), .d (.bool y.dat.mono), .d (.sl y_nbs m_nbs), .d (.sl y_his m_his), .d (.sl y_ehs m_ehs), .d (.sl y_sus m_sus), .d (.sl y_mets m_mets), .d (.str y.dat.u), .d (.str y.u)]]) (fun i => i ≤ x.dat.his.length ∧ (List.range i).all q_his = true) 0 ⟨by omega, rfl⟩ ⟨rfl, rfl, rfl, trivial⟩ rfl 2 rfl (fun _ => rfl) (fun _ => rfl) (fun _ => rfl) ?_
 rintro i ⟨i1, i2⟩
 refine Y ?_
 refine k'z rfl (fun hd => ?_) (fun hd => ?_)
 ·have hlt : i < x.dat.his.length := by have := of_decide_eq_true hd; rw [r_his.1] at this; omega
  obtain ⟨a', hxi⟩ : ∃ a, l_his[i]? = some a := ⟨_, List.getElem?_eq_getElem (by rw [r_his.1]; omega)⟩
  obtain ⟨b', hyi⟩ : ∃ b, m_his[i]? = some b := ⟨_, List.getElem?_eq_getElem (by rw [s_his.1]; omega)⟩
  obtain ⟨a, ha, ra⟩ := r_his.at hxi
  obtain ⟨b, hb, rb⟩ := s_his.at hyi
  have hin : (List.range x.dat.his.length).all q_his = true → q_his i = true := fun h => List.all_eq_true.1 h i (List.mem_range.2 hlt)
  have hri := g_his i a b ha hb
  have hm := k'2b (sz := Hi.sz) (List.mem_of_getElem? ha)
  have hc := refHi_calls B a b a' b' (by omega) ra rb
  rw [← hri] at hc
  obtain ⟨a0, a1, a2, a3, a4, a5, a6, a7, a8, a9, a10, a11, a12, a13, a14, a15, a16, a17, a18, rfl⟩ := Hi.R_sh ra
  obtain ⟨b0, b1, b2, b3, b4, b5, b6, b7, b8, b9, b10, b11, b12, b13, b14, b15, b16, b17, b18, rfl⟩ := Hi.R_sh rb
  refine Y ?_
  refine k'4l (.indexAddr (k := .i64) (n := i) (es := l_his) rfl rfl rfl rfl (.inl ⟨_, rfl⟩) rfl (by omega) (by simpa using hxi) rfl (by decide)) rfl rfl rfl ?_
  refine Y ?_
  refine k'4l (.indexAddr (k := .i64) (n := i) (es := m_his) rfl rfl rfl rfl (.inl ⟨_, rfl⟩) rfl (by omega) (by simpa using hyi) rfl (by decide)) rfl rfl rfl ?_
  refine Y ?_
  refine x_cw [] (hc) rfl rfl rfl ?_
  cases hr : q_his i
  ·rw [show (List.range x.dat.his.length).all q_his = false by cases hh : (List.range x.dat.his.length).all q_his with | false => rfl | true => rw [hin hh] at hr; simp at hr]
   exact Z
  refine Y ?_
  rw [show IntKind.i64.wrap ((i : Int) + 1) = ((i + 1 : Nat) : Int) by rw [k'1a (by omega) (by omega)]; omega]
  exact ⟨i + 1, by omega, ⟨by omega, by rw [List.range_succ, List.all_append, i2]; simp [hr]⟩, ⟨rfl, rfl, rfl, trivial⟩, rfl, k'1m rfl⟩
 have hge : i = x.dat.his.length := by have := of_decide_eq_false hd; rw [r_his.1] at this; omega
 subst hge
 rw [i2]
 clear i2 i1 hd
 refine Y ?_
 refine k'k (fun i : Nat => x.dat.ehs.length - i) (fun i => [(2, .ptr 0 0), (3, .ptr 1 0), (7, iT i)]) (fun _ => [.mu [.d (.str x.name), .d (.str x.desc), .d (.str x.unit), .d (.int .i64 x.kind), .d (.int .i32 x.dat.temp), .d (.bool x.dat.mono), .d (.sl z_nbs l_nbs), .d (.sl z_his l_his), .d (.sl z_ehs l_ehs), .d (.sl z_sus l_sus), .d (.sl z_mets l_mets), .d (.str x.dat.u), .d (.str x.u)], .mu [.d (.str y.name), .d (.str y.desc), .d (.str y.unit), .d (.int .i64 y.kind), .d (.int .i32 y.dat.temp), .d (.bool y.dat.mono), .d (.sl y_nbs m_nbs), .d (.sl y_his m_his), .d (.sl y_ehs m_ehs), .d (.sl y_sus m_sus), .d (.sl y_mets m_mets), .d (.str y.dat.u), .d (.str y.u)]]) (fun i => i ≤ x.dat.ehs.length ∧ (List.range i).all q_ehs = true) 0 ⟨by omega, rfl⟩ ⟨rfl, rfl, rfl, trivial⟩ rfl 2 rfl (fun _ => rfl) (fun _ => rfl) (fun _ => rfl) ?_
 rintro i ⟨i1, i2⟩
 refine Y ?_
 refine k'z rfl (fun hd => ?_) (fun hd => ?_)
 ·have hlt : i < x.dat.ehs.length := by have := of_decide_eq_true hd; rw [r_ehs.1] at this; omega
  obtain ⟨a', hxi⟩ : ∃ a, l_ehs[i]? = some a := ⟨_, List.getElem?_eq_getElem (by rw [r_ehs.1]; omega)⟩
  obtain ⟨b', hyi⟩ : ∃ b, m_ehs[i]? = some b := ⟨_, List.getElem?_eq_getElem (by rw [s_ehs.1]; omega)⟩
  obtain ⟨a, ha, ra⟩ := r_ehs.at hxi
  obtain ⟨b, hb, rb⟩ := s_ehs.at hyi
  have hin : (List.range x.dat.ehs.length).all q_ehs = true → q_ehs i = true := fun h => List.all_eq_true.1 h i (List.mem_range.2 hlt)
  have hri := g_ehs i a b ha hb
  have hm := k'2b (sz := Eh.sz) (List.mem_of_getElem? ha)
  have hc := refEh_calls B a b a' b' (by omega) ra rb
  rw [← hri] at hc
  obtain ⟨a0, a1, a2, a3, a4, a5, a6, a7, a8, a9, a10, a11, a12, a13, a14, a15, a16, a17, a18, a19, a20, a21, a22, a23, a24, a25, a26, a27, rfl⟩ := Eh.R_sh ra
  obtain ⟨b0, b1, b2, b3, b4, b5, b6, b7, b8, b9, b10, b11, b12, b13, b14, b15, b16, b17, b18, b19, b20, b21, b22, b23, b24, b25, b26, b27, rfl⟩ := Eh.R_sh rb
  refine Y ?_
  refine k'4l (.indexAddr (k := .i64) (n := i) (es := l_ehs) rfl rfl rfl rfl (.inl ⟨_, rfl⟩) rfl (by omega) (by simpa using hxi) rfl (by decide)) rfl rfl rfl ?_
  refine Y ?_
  refine k'4l (.indexAddr (k := .i64) (n := i) (es := m_ehs) rfl rfl rfl rfl (.inl ⟨_, rfl⟩) rfl (by omega) (by simpa using hyi) rfl (by decide)) rfl rfl rfl ?_
  refine Y ?_
  refine x_cw [] (hc) rfl rfl rfl ?_
  cases hr : q_ehs i
  ·rw [show (List.range x.dat.ehs.length).all q_ehs = false by cases hh : (List.range x.dat.ehs.length).all q_ehs with | false => rfl | true => rw [hin hh] at hr; simp at hr]
   exact Z
  refine Y ?_
  rw [show IntKind.i64.wrap ((i : Int) + 1) = ((i + 1 : Nat) : Int) by rw [k'1a (by omega) (by omega)]; omega]
  exact ⟨i + 1, by omega, ⟨by omega, by rw [List.range_succ, List.all_append, i2]; simp [hr]⟩, ⟨rfl, rfl, rfl, trivial⟩, rfl, k'1m rfl⟩
 have hge : i = x.dat.ehs.length := by have := of_decide_eq_false hd; rw [r_ehs.1] at this; omega
 subst hge
 rw [i2]
 clear i2 i1 hd
 refine Y ?_
 refine k'k (fun i : Nat => x.dat.sus.length - i) (fun i => [(2, .ptr 0 0), (3, .ptr 1 0), (8, iT i)]) (fun _ => [.mu [.d (.str x.name), .d (.str x.desc), .d (.str x.unit), .d (.int .i64 x.kind), .d (.int .i32 x.dat.temp), .d (.bool x.dat.mono), .d (.sl z_nbs l_nbs), .d (.sl z_his l_his), .d (.sl z_ehs l_ehs), .d (.sl z_sus l_sus), .d (.sl z_mets l_mets), .d (.str x.dat.u), .d (.str x.u)], .mu [.d (.str y.name), .d (.str y.desc), .d (.str y.unit), .d (.int .i64 y.kind), .d (.int .i32 y.dat.temp), .d (.bool y.dat.mono), .d (.sl y_nbs m_nbs), .d (.sl y_his m_his), .d (.sl y_ehs m_ehs), .d (.sl y_sus m_sus), .d (.sl y_mets m_mets), .d (.str y.dat.u), .d (.str y.u)]]) (fun i => i ≤ x.dat.sus.length ∧ (List.range i).all q_sus = true) 0 ⟨by omega, rfl⟩ ⟨rfl, rfl, rfl, trivial⟩ rfl 2 rfl (fun _ => rfl) (fun _ => rfl) (fun _ => rfl) ?_
 rintro i ⟨i1, i2⟩
 refine Y ?_
 refine k'z rfl (fun hd => ?_) (fun hd => ?_)
 ·have hlt : i < x.dat.sus.length := by have := of_decide_eq_true hd; rw [r_sus.1] at this; omega
  obtain ⟨a', hxi⟩ : ∃ a, l_sus[i]? = some a := ⟨_, List.getElem?_eq_getElem (by rw [r_sus.1]; omega)⟩
  obtain ⟨b', hyi⟩ : ∃ b, m_sus[i]? = some b := ⟨_, List.getElem?_eq_getElem (by rw [s_sus.1]; omega)⟩
  obtain ⟨a, ha, ra⟩ := r_sus.at hxi
  obtain ⟨b, hb, rb⟩ := s_sus.at hyi
  have hin : (List.range x.dat.sus.length).all q_sus = true → q_sus i = true := fun h => List.all_eq_true.1 h i (List.mem_range.2 hlt)
  have hri := g_sus i a b ha hb
  have hm := k'2b (sz := Su.sz) (List.mem_of_getElem? ha)
  have hc := refSu_calls B a b a' b' (by omega) ra rb
  rw [← hri] at hc
  obtain ⟨a0, a1, a2, a3, a4, a5, a6, a7, a8, a9, rfl⟩ := Su.R_sh ra
  obtain ⟨b0, b1, b2, b3, b4, b5, b6, b7, b8, b9, rfl⟩ := Su.R_sh rb
  refine Y ?_
  refine k'4l (.indexAddr (k := .i64) (n := i) (es := l_sus) rfl rfl rfl rfl (.inl ⟨_, rfl⟩) rfl (by omega) (by simpa using hxi) rfl (by decide)) rfl rfl rfl ?_
  refine Y ?_
  refine k'4l (.indexAddr (k := .i64) (n := i) (es := m_sus) rfl rfl rfl rfl (.inl ⟨_, rfl⟩) rfl (by omega) (by simpa using hyi) rfl (by decide)) rfl rfl rfl ?_
  refine Y ?_
  refine x_cw [] (hc) rfl rfl rfl ?_
  cases hr : q_sus i
  ·rw [show (List.range x.dat.sus.length).all q_sus = false by cases hh : (List.range x.dat.sus.length).all q_sus with | false => rfl | true => rw [hin hh] at hr; simp at hr]
   exact Z
  refine Y ?_
  rw [show IntKind.i64.wrap ((i : Int) + 1) = ((i + 1 : Nat) : Int) by rw [k'1a (by omega) (by omega)]; omega]
  exact ⟨i + 1, by omega, ⟨by omega, by rw [List.range_succ, List.all_append, i2]; simp [hr]⟩, ⟨rfl, rfl, rfl, trivial⟩, rfl, k'1m rfl⟩
 have hge : i = x.dat.sus.length := by have := of_decide_eq_false hd; rw [r_sus.1] at this; omega
 subst hge
 rw [i2]
 clear i2 i1 hd
 exact Z
