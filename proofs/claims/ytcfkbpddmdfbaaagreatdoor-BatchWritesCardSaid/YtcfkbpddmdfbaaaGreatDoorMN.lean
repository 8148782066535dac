/- Metrics: the reference's bytes. -/
import Derived.Test.YtcfkbpddmdfbaaaGreatDoorSM
import Derived.Test.YtcfkbpddmdfbaaaGreatDoorHR
import Derived.Test.YtcfkbpddmdfbaaaGreatDoorQM
import Derived.Test.YtcfkbpddmdfbaaaGreatDoorBW
set_option linter.unusedSimpArgs false
set_option linter.unusedVariables false
set_option maxRecDepth 100000
namespace Go.Proofs.YtcfkbpddmdfbaaaGreatDoor
open Go Go.Abs
variable (B : Fr)
def inTb (k : Int) : List Nat := if k = 2 then [10, 16, 24] else if k = 3 ∨ k = 4 then [10, 16] else [10]
theorem rInner_calls (k : Int) (h1 : 1 ≤ k) (h2 : k ≤ 5) : k'0 (cx B) 203 [.d (.int .i64 k)] [] (.d (.sl false ((inTb k).map iD))) [] := by
 have hk : k = 1 ∨ k = 2 ∨ k = 3 ∨ k = 4 ∨ k = 5 := by omega
 rcases hk with rfl | rfl | rfl | rfl | rfl
 ·rw [show inTb 1 = [10] from rfl]
  refine l_bw Tryz.func203 0 [] ?_
  (try refine k'1t rfl ?_)
  refine k'1 (.buildSlice (es := [10].map iD) rfl rfl rfl rfl rfl rfl (by intro x hx; simp [iD] at hx; subst hx; rfl) (by decide) (by decide) (by decide)) rfl rfl ?_
  exact Z
 ·rw [show inTb 2 = [10, 16, 24] from rfl]
  refine l_bw Tryz.func203 0 [] ?_
  (try refine k'1t rfl ?_)
  refine k'1 (.buildSlice (es := [10, 16, 24].map iD) rfl rfl rfl rfl rfl rfl (by intro x hx; simp [iD] at hx; rcases hx with rfl | rfl | rfl <;> rfl) (by decide) (by decide) (by decide)) rfl rfl ?_
  exact Z
 ·rw [show inTb 3 = [10, 16] from rfl]
  refine l_bw Tryz.func203 0 [] ?_
  (try refine k'1t rfl ?_)
  refine k'1 (.buildSlice (es := [10, 16].map iD) rfl rfl rfl rfl rfl rfl (by intro x hx; simp [iD] at hx; rcases hx with rfl | rfl <;> rfl) (by decide) (by decide) (by decide)) rfl rfl ?_
  exact Z
 ·rw [show inTb 4 = [10, 16] from rfl]
  refine l_bw Tryz.func203 0 [] ?_
  (try refine k'1t rfl ?_)
  refine k'1 (.buildSlice (es := [10, 16].map iD) rfl rfl rfl rfl rfl rfl (by intro x hx; simp [iD] at hx; rcases hx with rfl | rfl <;> rfl) (by decide) (by decide) (by decide)) rfl rfl ?_
  exact Z
 ·rw [show inTb 5 = [10] from rfl]
  refine l_bw Tryz.func203 0 [] ?_
  (try refine k'1t rfl ?_)
  refine k'1 (.buildSlice (es := [10].map iD) rfl rfl rfl rfl rfl rfl (by intro x hx; simp [iD] at hx; subst hx; rfl) (by decide) (by decide) (by decide)) rfl rfl ?_
  exact Z
theorem tb_in {k : Int} (h1 : 1 ≤ k) (h2 : k ≤ 5) (n kd : Nat) (hk : kd < 8) : tkB (inTb k) n kd = tbI k n kd := by
 have h : k = 1 ∨ k = 2 ∨ k = 3 ∨ k = 4 ∨ k = 5 := by omega
 by_cases hn : n < 4
 ·rcases h with rfl | rfl | rfl | rfl | rfl
  ·exact (by decide : ∀ n < 4, ∀ k < 8, tkB (inTb 1) n k = tbI 1 n k) n hn kd hk
  ·exact (by decide : ∀ n < 4, ∀ k < 8, tkB (inTb 2) n k = tbI 2 n k) n hn kd hk
  ·exact (by decide : ∀ n < 4, ∀ k < 8, tkB (inTb 3) n k = tbI 3 n k) n hn kd hk
  ·exact (by decide : ∀ n < 4, ∀ k < 8, tkB (inTb 4) n k = tbI 4 n k) n hn kd hk
  ·exact (by decide : ∀ n < 4, ∀ k < 8, tkB (inTb 5) n k = tbI 5 n k) n hn kd hk
 ·have e : tbI k n kd = false := by
   unfold tbI
   rw [show (n == 1) = false by simp; omega, show (n == 2) = false by simp; omega, show (n == 3) = false by simp; omega]; rfl
  rw [e]
  rcases h with rfl | rfl | rfl | rfl | rfl
  ·show tkB [10] n kd = false; unfold tkB; simp; omega
  ·show tkB [10, 16, 24] n kd = false; unfold tkB; simp; omega
  ·show tkB [10, 16] n kd = false; unfold tkB; simp; omega
  ·show tkB [10, 16] n kd = false; unfold tkB; simp; omega
  ·show tkB [10] n kd = false; unfold tkB; simp; omega
theorem tabMe_calls : k'0 (cx B) 202 [] [] (.d (.sl false ([10, 18, 26, 42, 58, 74, 82, 90, 98].map iD))) [] := by
 refine l_bw Tryz.func202 0 [] ?_
 (try refine k'1t rfl ?_)
 refine k'1 (.buildSlice (es := [10, 18, 26, 42, 58, 74, 82, 90, 98].map iD) rfl rfl rfl rfl rfl rfl (by intro x hx; simp [iD] at hx; rcases hx with rfl | rfl | rfl | rfl | rfl | rfl | rfl | rfl | rfl <;> rfl) (by decide) (by decide) (by decide)) rfl rfl ?_
 exact Z
theorem tbM_big {n k : Nat} (hn : 13 ≤ n) : tbM n k = false := by
 unfold tbM kindK
 rw [if_neg (by omega), if_neg (by omega), if_neg (by omega), if_neg (by omega), if_neg (by omega)]
 simp; omega
theorem tk_Me (n k : Nat) (hk : k < 8) : tkB [10, 18, 26, 42, 58, 74, 82, 90, 98] n k = tbM n k := by
 by_cases hn : n < 13
 ·exact (by decide : ∀ n < 13, ∀ k < 8, tkB [10, 18, 26, 42, 58, 74, 82, 90, 98] n k = tbM n k) n hn k hk
 ·rw [show tkB [10, 18, 26, 42, 58, 74, 82, 90, 98] n k = false by unfold tkB; simp; omega, tbM_big (by omega)]
theorem PutBool_calls (n : Nat) (b : Bool) (h1 : 1 ≤ n) (h2 : n ≤ 536870911) : k'0 (cx B) 326 [iT n, .d (.bool b)] [] (sT (flV n b)) [] := by
 cases b
 ·show k'0 (cx B) 326 [iT n, .d (.bool false)] [] (sT []) []
  refine l_b0 Tryz.func326 0 [] ?_
  exact Z
 show k'0 (cx B) 326 [iT n, .d (.bool true)] [] (sT (fewV n 1)) []
 have c : k'0 (cx B) 86 [iT n, uT 1] [] (sT (fewV n 1)) [] := k'3r B n 1 h1 h2 (by omega)
 generalize fewV n 1 = s at *
 refine l_bw Tryz.func326 0 [] ?_
 refine k'2 [] (c) rfl rfl rfl ?_
 exact Z
theorem number_calls (k : Int) (h1 : 1 ≤ k) (h2 : k ≤ 5) : k'0 (cx B) 244 [.d (.int .i64 k)] [] (iT (numK k)) [] := by
 have hk : k = 1 ∨ k = 2 ∨ k = 3 ∨ k = 4 ∨ k = 5 := by omega
 rcases hk with rfl | rfl | rfl | rfl | rfl
 ·show k'0 (cx B) 244 [.d (.int .i64 1)] [] (iT 5) []
  refine l_bw Tryz.func244 0 [] ?_
  refine k'1 (.buildSlice (es := [0, 5, 7, 9, 10, 11].map iD) rfl rfl rfl rfl rfl rfl (by intro x hx; simp [iD] at hx; rcases hx with rfl | rfl | rfl | rfl | rfl | rfl <;> rfl) (by decide) (by decide) (by decide)) rfl rfl ?_
  refine Y ?_
  refine k'1 (.indexAddr (k := .i64) (n := 1) (es := [0, 5, 7, 9, 10, 11].map iD) rfl rfl rfl rfl (.inr ⟨_, rfl⟩) rfl (by decide) rfl rfl (by decide)) rfl rfl ?_
  exact Z
 ·show k'0 (cx B) 244 [.d (.int .i64 2)] [] (iT 7) []
  refine l_bw Tryz.func244 0 [] ?_
  refine k'1 (.buildSlice (es := [0, 5, 7, 9, 10, 11].map iD) rfl rfl rfl rfl rfl rfl (by intro x hx; simp [iD] at hx; rcases hx with rfl | rfl | rfl | rfl | rfl | rfl <;> rfl) (by decide) (by decide) (by decide)) rfl rfl ?_
  refine Y ?_
  refine k'1 (.indexAddr (k := .i64) (n := 2) (es := [0, 5, 7, 9, 10, 11].map iD) rfl rfl rfl rfl (.inr ⟨_, rfl⟩) rfl (by decide) rfl rfl (by decide)) rfl rfl ?_
  exact Z
 ·show k'0 (cx B) 244 [.d (.int .i64 3)] [] (iT 9) []
  refine l_bw Tryz.func244 0 [] ?_
  refine k'1 (.buildSlice (es := [0, 5, 7, 9, 10, 11].map iD) rfl rfl rfl rfl rfl rfl (by intro x hx; simp [iD] at hx; rcases hx with rfl | rfl | rfl | rfl | rfl | rfl <;> rfl) (by decide) (by decide) (by decide)) rfl rfl ?_
  refine Y ?_
  refine k'1 (.indexAddr (k := .i64) (n := 3) (es := [0, 5, 7, 9, 10, 11].map iD) rfl rfl rfl rfl (.inr ⟨_, rfl⟩) rfl (by decide) rfl rfl (by decide)) rfl rfl ?_
  exact Z
 ·show k'0 (cx B) 244 [.d (.int .i64 4)] [] (iT 10) []
  refine l_bw Tryz.func244 0 [] ?_
  refine k'1 (.buildSlice (es := [0, 5, 7, 9, 10, 11].map iD) rfl rfl rfl rfl rfl rfl (by intro x hx; simp [iD] at hx; rcases hx with rfl | rfl | rfl | rfl | rfl | rfl <;> rfl) (by decide) (by decide) (by decide)) rfl rfl ?_
  refine Y ?_
  refine k'1 (.indexAddr (k := .i64) (n := 4) (es := [0, 5, 7, 9, 10, 11].map iD) rfl rfl rfl rfl (.inr ⟨_, rfl⟩) rfl (by decide) rfl rfl (by decide)) rfl rfl ?_
  exact Z
 ·show k'0 (cx B) 244 [.d (.int .i64 5)] [] (iT 11) []
  refine l_bw Tryz.func244 0 [] ?_
  refine k'1 (.buildSlice (es := [0, 5, 7, 9, 10, 11].map iD) rfl rfl rfl rfl rfl rfl (by intro x hx; simp [iD] at hx; rcases hx with rfl | rfl | rfl | rfl | rfl | rfl <;> rfl) (by decide) (by decide) (by decide)) rfl rfl ?_
  refine Y ?_
  refine k'1 (.indexAddr (k := .i64) (n := 5) (es := [0, 5, 7, 9, 10, 11].map iD) rfl rfl rfl rfl (.inr ⟨_, rfl⟩) rfl (by decide) rfl rfl (by decide)) rfl rfl ?_
  exact Z
set_option maxHeartbeats 8000000 in
theorem rIn_calls (x : Me) (xa : D) (d : Int) (hbig : x.sz < big) (hwf : x.dat.wf) (hm : x.dat.pts d = true) (hx : x.R xa) : k'0 (cx B) 245 [.d xa] [] (sT x.dat.mar) [] := by
 have hlen := x.dat.mar_len
 obtain ⟨z_nbs, l_nbs, z_his, l_his, z_ehs, l_ehs, z_sus, l_sus, z_mets, l_mets, rfl, r_nbs, r_his, r_ehs, r_sus, r_mets⟩ := hx
 unfold In.pts at hm
 simp only [Bool.and_eq_true] at hm
 obtain ⟨⟨⟨m_nbs, m_his⟩, m_ehs⟩, m_sus⟩ := hm
 obtain ⟨w_nbs, w_his, w_ehs, w_sus, w_temp⟩ := hwf
 have hsz : x.dat.sz < big := by unfold Me.sz at hbig; omega
 have hlen : x.dat.mar.length < big := by omega
 unfold In.sz big at hsz
 unfold In.mar In.hb at hlen ⊢
 have cT : k'0 (cx B) 42 [iT 2, uT (k'45 x.dat.temp)] [] (sT (vrV 2 (k'45 x.dat.temp))) [] := k'18 B 2 (k'45 x.dat.temp) (by omega) (by omega) (tempN_lt w_temp.1 w_temp.2)
 have cM := PutBool_calls B 3 x.dat.mono (by omega) (by omega)
 have hwT := temp_u64 w_temp.1 w_temp.2
 generalize vrV 2 (k'45 x.dat.temp) = oT at *
 generalize flV 3 x.dat.mono = oM at *
 have hB9 : big = 34359738368 := rfl
 have h_nbs := k'22 (sz := Nb.sz) (fun x => by unfold Nb.sz; omega) x.dat.nbs
 have p_nbs := k'1v 1 x.dat.nbs fun y _ => Nb.mar_len y
 have h_his := k'22 (sz := Hi.sz) (fun x => by unfold Hi.sz; omega) x.dat.his
 have p_his := k'1v 1 x.dat.his fun y _ => Hi.mar_len y
 have h_ehs := k'22 (sz := Eh.sz) (fun x => by unfold Eh.sz; omega) x.dat.ehs
 have p_ehs := k'1v 1 x.dat.ehs fun y _ => Eh.mar_len y
 have h_sus := k'22 (sz := Su.sz) (fun x => by unfold Su.sz; omega) x.dat.sus
 have p_sus := k'1v 1 x.dat.sus fun y _ => Su.mar_len y
 refine l_bw Tryz.func245 0 [] ?_
 refine k'8 (fun i : Nat => x.dat.nbs.length - i) (fun i => [(1, .ptr 0 0), (3, sT (psV 1 ((x.dat.nbs.take i).map Nb.mar))), (4, iT i)]) (fun _ => [.mu [.d (.str x.name), .d (.str x.desc), .d (.str x.unit), .d (.int .i64 x.kind), .d (.int .i32 x.dat.temp), .d (.bool x.dat.mono), .d (.sl z_nbs l_nbs), .d (.sl z_his l_his), .d (.sl z_ehs l_ehs), .d (.sl z_sus l_sus), .d (.sl z_mets l_mets), .d (.str x.dat.u), .d (.str x.u)]]) (fun i => i ≤ x.dat.nbs.length) 0 (by omega) ⟨rfl, by (try rw [show (x.dat.nbs.take 0) = [] from rfl]); (try rw [List.map_nil]); (try rw [show psV 1 ([] : List (List UInt8)) = [] from rfl, List.append_nil]); rfl, rfl, trivial⟩ rfl 1 rfl (fun _ => rfl) (fun _ => rfl) (fun _ => rfl) ?_
 intro i i1
 refine Y ?_
 refine k'13 rfl (fun hc => ?_) (fun hc => ?_)
 ·have hlt : i < x.dat.nbs.length := by have := of_decide_eq_true hc; rw [r_nbs.1] at this; omega
  obtain ⟨a', hxi⟩ : ∃ a, l_nbs[i]? = some a := ⟨_, List.getElem?_eq_getElem (by rw [r_nbs.1]; omega)⟩
  obtain ⟨v, hv, rv⟩ := r_nbs.at hxi
  obtain ⟨e1, e2⟩ := sum_tk Nb.sz hv
  have e3 := ps_tk Nb.mar 1 hv
  have e4 := k'1v 1 (x.dat.nbs.take i) fun y _ => Nb.mar_len y
  have e5 := Nb.mar_len v
  have e6 := k'2b 1 v.mar
  have p1 := rNb_calls B v a' d (by omega) (w_nbs v (List.mem_of_getElem? hv)) (List.all_eq_true.1 m_nbs v (List.mem_of_getElem? hv)) rv
  have p3 : k'0 (cx B) 41 [iT 1, sT v.mar] [] (sT (paV 1 v.mar)) [] := k'7 B 1 v.mar (by omega) (by omega) (by omega)
  generalize psV 1 ((x.dat.nbs.take i).map Nb.mar) = acc at *
  generalize v.mar = vm at *
  generalize paV 1 vm = pa at *
  obtain ⟨a0, a1, a2, a3, a4, a5, a6, a7, a8, a9, rfl⟩ := Nb.R_sh rv
  refine Y ?_
  refine k'1 (.indexAddr (k := .i64) (n := i) (es := l_nbs) rfl rfl rfl rfl (.inl ⟨_, rfl⟩) rfl (by omega) (by simpa using hxi) rfl (by decide)) rfl rfl ?_
  refine Y ?_
  refine l_cw [] (p1) rfl rfl rfl ?_
  refine l_cw [] (p3) rfl rfl rfl ?_
  refine k'1 (.addStr rfl rfl rfl (by (try simp only [List.length_append] at *); omega)) rfl rfl ?_
  refine Y ?_
  rw [wS i (by omega)]
  exact ⟨i + 1, by omega, by omega, ⟨rfl, by rw [e3]; (try rw [← List.append_assoc]); rfl, rfl, trivial⟩, rfl, k'z rfl⟩
 have hge : i = x.dat.nbs.length := by have := of_decide_eq_false hc; rw [r_nbs.1] at this; omega
 subst hge
 rw [List.take_length]
 clear hc i1
 refine Y ?_
 generalize hO0 : psV 1 (x.dat.nbs.map Nb.mar) = o0 at *
 refine k'8 (fun i : Nat => x.dat.his.length - i) (fun i => [(1, .ptr 0 0), (3, sT (o0 ++ psV 1 ((x.dat.his.take i).map Hi.mar))), (5, iT i)]) (fun _ => [.mu [.d (.str x.name), .d (.str x.desc), .d (.str x.unit), .d (.int .i64 x.kind), .d (.int .i32 x.dat.temp), .d (.bool x.dat.mono), .d (.sl z_nbs l_nbs), .d (.sl z_his l_his), .d (.sl z_ehs l_ehs), .d (.sl z_sus l_sus), .d (.sl z_mets l_mets), .d (.str x.dat.u), .d (.str x.u)]]) (fun i => i ≤ x.dat.his.length) 0 (by omega) ⟨rfl, by (try rw [show (x.dat.his.take 0) = [] from rfl]); (try rw [List.map_nil]); (try rw [show psV 1 ([] : List (List UInt8)) = [] from rfl, List.append_nil]); rfl, rfl, trivial⟩ rfl 1 rfl (fun _ => rfl) (fun _ => rfl) (fun _ => rfl) ?_
 intro i i1
 refine Y ?_
 refine k'13 rfl (fun hc => ?_) (fun hc => ?_)
 ·have hlt : i < x.dat.his.length := by have := of_decide_eq_true hc; rw [r_his.1] at this; omega
  obtain ⟨a', hxi⟩ : ∃ a, l_his[i]? = some a := ⟨_, List.getElem?_eq_getElem (by rw [r_his.1]; omega)⟩
  obtain ⟨v, hv, rv⟩ := r_his.at hxi
  obtain ⟨e1, e2⟩ := sum_tk Hi.sz hv
  have e3 := ps_tk Hi.mar 1 hv
  have e4 := k'1v 1 (x.dat.his.take i) fun y _ => Hi.mar_len y
  have e5 := Hi.mar_len v
  have e6 := k'2b 1 v.mar
  have p1 := rHi_calls B v a' d (by omega) (w_his v (List.mem_of_getElem? hv)) (List.all_eq_true.1 m_his v (List.mem_of_getElem? hv)) rv
  have p3 : k'0 (cx B) 41 [iT 1, sT v.mar] [] (sT (paV 1 v.mar)) [] := k'7 B 1 v.mar (by omega) (by omega) (by omega)
  generalize psV 1 ((x.dat.his.take i).map Hi.mar) = acc at *
  generalize v.mar = vm at *
  generalize paV 1 vm = pa at *
  obtain ⟨a0, a1, a2, a3, a4, a5, a6, a7, a8, a9, a10, a11, a12, a13, a14, a15, a16, a17, a18, rfl⟩ := Hi.R_sh rv
  refine Y ?_
  refine k'1 (.indexAddr (k := .i64) (n := i) (es := l_his) rfl rfl rfl rfl (.inl ⟨_, rfl⟩) rfl (by omega) (by simpa using hxi) rfl (by decide)) rfl rfl ?_
  refine Y ?_
  refine l_cw [] (p1) rfl rfl rfl ?_
  refine l_cw [] (p3) rfl rfl rfl ?_
  refine k'1 (.addStr rfl rfl rfl (by (try simp only [List.length_append] at *); omega)) rfl rfl ?_
  refine Y ?_
  rw [wS i (by omega)]
  exact ⟨i + 1, by omega, by omega, ⟨rfl, by rw [e3]; (try rw [← List.append_assoc]); rfl, rfl, trivial⟩, rfl, k'z rfl⟩
 have hge : i = x.dat.his.length := by have := of_decide_eq_false hc; rw [r_his.1] at this; omega
 subst hge
 rw [List.take_length]
 clear hc i1
 refine Y ?_
 generalize hO1 : o0 ++ psV 1 (x.dat.his.map Hi.mar) = o1 at *
 refine k'8 (fun i : Nat => x.dat.ehs.length - i) (fun i => [(1, .ptr 0 0), (3, sT (o1 ++ psV 1 ((x.dat.ehs.take i).map Eh.mar))), (6, iT i)]) (fun _ => [.mu [.d (.str x.name), .d (.str x.desc), .d (.str x.unit), .d (.int .i64 x.kind), .d (.int .i32 x.dat.temp), .d (.bool x.dat.mono), .d (.sl z_nbs l_nbs), .d (.sl z_his l_his), .d (.sl z_ehs l_ehs), .d (.sl z_sus l_sus), .d (.sl z_mets l_mets), .d (.str x.dat.u), .d (.str x.u)]]) (fun i => i ≤ x.dat.ehs.length) 0 (by omega) ⟨rfl, by (try rw [show (x.dat.ehs.take 0) = [] from rfl]); (try rw [List.map_nil]); (try rw [show psV 1 ([] : List (List UInt8)) = [] from rfl, List.append_nil]); rfl, rfl, trivial⟩ rfl 1 rfl (fun _ => rfl) (fun _ => rfl) (fun _ => rfl) ?_
 intro i i1
 refine Y ?_
 refine k'13 rfl (fun hc => ?_) (fun hc => ?_)
 ·have hlt : i < x.dat.ehs.length := by have := of_decide_eq_true hc; rw [r_ehs.1] at this; omega
  obtain ⟨a', hxi⟩ : ∃ a, l_ehs[i]? = some a := ⟨_, List.getElem?_eq_getElem (by rw [r_ehs.1]; omega)⟩
  obtain ⟨v, hv, rv⟩ := r_ehs.at hxi
  obtain ⟨e1, e2⟩ := sum_tk Eh.sz hv
  have e3 := ps_tk Eh.mar 1 hv
  have e4 := k'1v 1 (x.dat.ehs.take i) fun y _ => Eh.mar_len y
  have e5 := Eh.mar_len v
  have e6 := k'2b 1 v.mar
  have p1 := rEh_calls B v a' d (by omega) (w_ehs v (List.mem_of_getElem? hv)) (List.all_eq_true.1 m_ehs v (List.mem_of_getElem? hv)) rv
  have p3 : k'0 (cx B) 41 [iT 1, sT v.mar] [] (sT (paV 1 v.mar)) [] := k'7 B 1 v.mar (by omega) (by omega) (by omega)
  generalize psV 1 ((x.dat.ehs.take i).map Eh.mar) = acc at *
  generalize v.mar = vm at *
  generalize paV 1 vm = pa at *
  obtain ⟨a0, a1, a2, a3, a4, a5, a6, a7, a8, a9, a10, a11, a12, a13, a14, a15, a16, a17, a18, a19, a20, a21, a22, a23, a24, a25, a26, a27, rfl⟩ := Eh.R_sh rv
  refine Y ?_
  refine k'1 (.indexAddr (k := .i64) (n := i) (es := l_ehs) rfl rfl rfl rfl (.inl ⟨_, rfl⟩) rfl (by omega) (by simpa using hxi) rfl (by decide)) rfl rfl ?_
  refine Y ?_
  refine l_cw [] (p1) rfl rfl rfl ?_
  refine l_cw [] (p3) rfl rfl rfl ?_
  refine k'1 (.addStr rfl rfl rfl (by (try simp only [List.length_append] at *); omega)) rfl rfl ?_
  refine Y ?_
  rw [wS i (by omega)]
  exact ⟨i + 1, by omega, by omega, ⟨rfl, by rw [e3]; (try rw [← List.append_assoc]); rfl, rfl, trivial⟩, rfl, k'z rfl⟩
 have hge : i = x.dat.ehs.length := by have := of_decide_eq_false hc; rw [r_ehs.1] at this; omega
 subst hge
 rw [List.take_length]
 clear hc i1
 refine Y ?_
 generalize hO2 : o1 ++ psV 1 (x.dat.ehs.map Eh.mar) = o2 at *
 refine k'8 (fun i : Nat => x.dat.sus.length - i) (fun i => [(1, .ptr 0 0), (3, sT (o2 ++ psV 1 ((x.dat.sus.take i).map Su.mar))), (7, iT i)]) (fun _ => [.mu [.d (.str x.name), .d (.str x.desc), .d (.str x.unit), .d (.int .i64 x.kind), .d (.int .i32 x.dat.temp), .d (.bool x.dat.mono), .d (.sl z_nbs l_nbs), .d (.sl z_his l_his), .d (.sl z_ehs l_ehs), .d (.sl z_sus l_sus), .d (.sl z_mets l_mets), .d (.str x.dat.u), .d (.str x.u)]]) (fun i => i ≤ x.dat.sus.length) 0 (by omega) ⟨rfl, by (try rw [show (x.dat.sus.take 0) = [] from rfl]); (try rw [List.map_nil]); (try rw [show psV 1 ([] : List (List UInt8)) = [] from rfl, List.append_nil]); rfl, rfl, trivial⟩ rfl 1 rfl (fun _ => rfl) (fun _ => rfl) (fun _ => rfl) ?_
 intro i i1
 refine Y ?_
 refine k'13 rfl (fun hc => ?_) (fun hc => ?_)
 ·have hlt : i < x.dat.sus.length := by have := of_decide_eq_true hc; rw [r_sus.1] at this; omega
  obtain ⟨a', hxi⟩ : ∃ a, l_sus[i]? = some a := ⟨_, List.getElem?_eq_getElem (by rw [r_sus.1]; omega)⟩
  obtain ⟨v, hv, rv⟩ := r_sus.at hxi
  obtain ⟨e1, e2⟩ := sum_tk Su.sz hv
  have e3 := ps_tk Su.mar 1 hv
  have e4 := k'1v 1 (x.dat.sus.take i) fun y _ => Su.mar_len y
  have e5 := Su.mar_len v
  have e6 := k'2b 1 v.mar
  have p1 := rSu_calls B v a' d (by omega) (w_sus v (List.mem_of_getElem? hv)) (List.all_eq_true.1 m_sus v (List.mem_of_getElem? hv)) rv
  have p3 : k'0 (cx B) 41 [iT 1, sT v.mar] [] (sT (paV 1 v.mar)) [] := k'7 B 1 v.mar (by omega) (by omega) (by omega)
  generalize psV 1 ((x.dat.sus.take i).map Su.mar) = acc at *
  generalize v.mar = vm at *
  generalize paV 1 vm = pa at *
  obtain ⟨a0, a1, a2, a3, a4, a5, a6, a7, a8, a9, rfl⟩ := Su.R_sh rv
  refine Y ?_
  refine k'1 (.indexAddr (k := .i64) (n := i) (es := l_sus) rfl rfl rfl rfl (.inl ⟨_, rfl⟩) rfl (by omega) (by simpa using hxi) rfl (by decide)) rfl rfl ?_
  refine Y ?_
  refine l_cw [] (p1) rfl rfl rfl ?_
  refine l_cw [] (p3) rfl rfl rfl ?_
  refine k'1 (.addStr rfl rfl rfl (by (try simp only [List.length_append] at *); omega)) rfl rfl ?_
  refine Y ?_
  rw [wS i (by omega)]
  exact ⟨i + 1, by omega, by omega, ⟨rfl, by rw [e3]; (try rw [← List.append_assoc]); rfl, rfl, trivial⟩, rfl, k'z rfl⟩
 have hge : i = x.dat.sus.length := by have := of_decide_eq_false hc; rw [r_sus.1] at this; omega
 subst hge
 rw [List.take_length]
 clear hc i1
 refine Y ?_
 generalize hO3 : o2 ++ psV 1 (x.dat.sus.map Su.mar) = o3 at *
 unfold big at hlen
 simp only [List.length_append] at hlen
 refine Y ?_
 rw [hwT]
 refine x_cw [] (cT) rfl rfl rfl ?_
 refine k'12 (.addStr rfl rfl rfl (by (try simp only [List.length_append]); omega)) rfl rfl rfl ?_
 refine Y ?_
 refine x_cw [] (cM) rfl rfl rfl ?_
 refine k'12 (.addStr rfl rfl rfl (by (try simp only [List.length_append]); omega)) rfl rfl rfl ?_
 refine Y ?_
 refine k'12 (.addStr rfl rfl rfl (by (try simp only [List.length_append]); omega)) rfl rfl rfl ?_
 exact Z
set_option maxHeartbeats 4000000 in
theorem rMe_calls (x : Me) (xa : D) (d : Int) (hbig : x.sz < big) (hwf : x.wf) (hm : x.may d = true) (hx : x.R xa) : k'0 (cx B) 184 [.d xa] [] (sT x.mar) [] := by
 have hlen := x.mar_len
 have hlen : x.mar.length < big := by omega
 have c_d := fun h => rIn_calls B x xa (d - 1 - 1) hbig hwf.1 h hx
 have hdl := x.dat.mar_len
 obtain ⟨z_nbs, l_nbs, z_his, l_his, z_ehs, l_ehs, z_sus, l_sus, z_mets, l_mets, rfl, r_nbs, r_his, r_ehs, r_sus, r_mets⟩ := hx
 unfold Me.may at hm
 simp only [Bool.and_eq_true, decide_eq_true_eq] at hm
 obtain ⟨⟨⟨⟨⟨⟨hd, m_on⟩, m_name⟩, m_desc⟩, m_unit⟩, m_mets⟩, hu⟩ := hm
 unfold mayOn at m_on
 simp only [Bool.and_eq_true, decide_eq_true_eq] at m_on
 obtain ⟨⟨⟨k0, k5⟩, -⟩, m_i⟩ := m_on
 unfold Me.sz at hbig
 unfold Me.mar Me.hb at hlen ⊢
 have c0 : k'0 (cx B) 43 [iT 1, sT x.name] [] (sT (txV 1 x.name)) [] := k'j B 1 x.name (by omega) (by omega) (by omega)
 have c1 : k'0 (cx B) 43 [iT 2, sT x.desc] [] (sT (txV 2 x.desc)) [] := k'j B 2 x.desc (by omega) (by omega) (by omega)
 have c2 : k'0 (cx B) 43 [iT 3, sT x.unit] [] (sT (txV 3 x.unit)) [] := k'j B 3 x.unit (by omega) (by omega) (by omega)
 have c3 : k'0 (cx B) 150 [iT 12, .d (.sl z_mets l_mets)] [] (sT (psV 12 (Kv.mars x.mets))) [] := k'1q B 12 (by omega) (by omega) x.mets z_mets l_mets (d - 1) (by omega) hwf.2 m_mets r_mets
 generalize txV 1 x.name = o0 at *
 generalize txV 2 x.desc = o1 at *
 generalize txV 3 x.unit = o2 at *
 generalize psV 12 (Kv.mars x.mets) = o4 at *
 have hB9 : big = 34359738368 := rfl
 by_cases hk : x.kind > 0
 ·have hon : onOk x.kind := ⟨by omega, k5⟩
  obtain ⟨-, -, n1, n2, -⟩ := numK_ok hon
  rw [if_neg (by omega)] at m_i
  unfold mayI at m_i
  simp only [Bool.and_eq_true, decide_eq_true_eq] at m_i
  replace c_d := c_d m_i.1.2
  have c_n := number_calls B x.kind (by omega) k5
  have c_b : k'0 (cx B) 41 [iT (numK x.kind), sT x.dat.mar] [] (sT (paV (numK x.kind) x.dat.mar)) [] := k'7 B (numK x.kind) x.dat.mar n1 n2 (by omega)
  rw [show onV x.kind x.dat = paV (numK x.kind) x.dat.mar from if_pos hon] at hlen ⊢
  generalize paV (numK x.kind) x.dat.mar = o3 at *
  generalize x.dat.mar = dm at *
  simp only [List.length_append] at hlen
  refine l_bw Tryz.func184 0 [] ?_
  refine x_cw [] (c0) rfl rfl rfl ?_
  refine x_cw [] (c1) rfl rfl rfl ?_
  refine k'12 (.addStr rfl rfl rfl (by omega)) rfl rfl rfl ?_
  refine Y ?_
  refine x_cw [] (c2) rfl rfl rfl ?_
  refine k'12 (.addStr rfl rfl rfl (by (try simp only [List.length_append]); omega)) rfl rfl rfl ?_
  refine Y ?_
  rw [show decide (x.kind > 0) = true from decide_eq_true hk]
  refine Y ?_
  refine x_cw [] (c_n) rfl rfl rfl ?_
  refine x_cw [] (c_d) rfl rfl rfl ?_
  refine x_cw [] (c_b) rfl rfl rfl ?_
  refine k'12 (.addStr rfl rfl rfl (by (try simp only [List.length_append]); omega)) rfl rfl rfl ?_
  refine Y ?_
  refine x_cw [] (c3) rfl rfl rfl ?_
  refine k'12 (.addStr rfl rfl rfl (by (try simp only [List.length_append]); omega)) rfl rfl rfl ?_
  refine Y ?_
  refine k'12 (.addStr rfl rfl rfl (by (try simp only [List.length_append]); omega)) rfl rfl rfl ?_
  exact Z
 ·rw [show onV x.kind x.dat = [] from if_neg (fun h => hk (by unfold onOk at h; omega)), List.append_nil] at hlen ⊢
  simp only [List.length_append] at hlen
  refine l_bw Tryz.func184 0 [] ?_
  refine x_cw [] (c0) rfl rfl rfl ?_
  refine x_cw [] (c1) rfl rfl rfl ?_
  refine k'12 (.addStr rfl rfl rfl (by omega)) rfl rfl rfl ?_
  refine Y ?_
  refine x_cw [] (c2) rfl rfl rfl ?_
  refine k'12 (.addStr rfl rfl rfl (by (try simp only [List.length_append]); omega)) rfl rfl rfl ?_
  refine Y ?_
  rw [show decide (x.kind > 0) = false from decide_eq_false hk]
  refine Y ?_
  refine x_cw [] (c3) rfl rfl rfl ?_
  refine k'12 (.addStr rfl rfl rfl (by (try simp only [List.length_append]); omega)) rfl rfl rfl ?_
  refine Y ?_
  refine k'12 (.addStr rfl rfl rfl (by (try simp only [List.length_append]); omega)) rfl rfl rfl ?_
  exact Z
