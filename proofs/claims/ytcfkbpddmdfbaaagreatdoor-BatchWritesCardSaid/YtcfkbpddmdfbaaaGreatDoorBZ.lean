/- Batches: the reference's bytes. -/
import Derived.Test.YtcfkbpddmdfbaaaGreatDoorBX
import Derived.Test.YtcfkbpddmdfbaaaGreatDoorBB
import Derived.Test.YtcfkbpddmdfbaaaGreatDoorMV
set_option linter.unusedSimpArgs false
set_option linter.unusedVariables false
set_option maxRecDepth 100000
namespace Go.Proofs.YtcfkbpddmdfbaaaGreatDoor
open Go Go.Abs
variable (B : Fr)
section
set_option maxHeartbeats 4000000 in
theorem rSm_calls (x : Sm) (xa : D) (d : Int) (hbig : smM.sz x < big) (hwf : smM.wf x) (hm : smM.may x d = true) (hx : Sm.R x xa) : k'0 (cx B) 129 [.d xa] [] (sT (smM.mar x)) [] := by
 have hlen := smM.len x
 have hlen : (smM.mar x).length < big := by omega
 obtain ⟨zp, lp, z, l, rfl, r_p, r_qs⟩ := hx
 have hp : Sc.sz x.p < big := by
  change 300 + Sc.sz x.p + _ + _ + _ < big at hbig
  omega
 change trSz scM meM x < big at hbig
 unfold trSz at hbig
 change trMay scM meM x d = true at hm
 unfold trMay at hm
 simp only [Bool.and_eq_true, decide_eq_true_eq] at hm
 obtain ⟨⟨⟨⟨hd, m_p⟩, m_t⟩, m_q⟩, m_u⟩ := hm
 have hla := k'22 (sz := meM.sz) (fun y => by show 1 ≤ Me.sz y; unfold Me.sz; omega) x.qs
 have c_p := rSc_calls B x.p _ hp hwf.1 ⟨zp, lp, rfl, r_p⟩
 have c_t : k'0 (cx B) 43 [iT 3, sT x.sch] [] (sT (txV 3 x.sch)) [] := k'j B 3 x.sch (by omega) (by omega) (by omega)
 have hlq := r_qs.1
 have hql : (x.qs.map meM.mar).length = l.length := by rw [List.length_map]; omega
 have hf : ∀ (i : Nat) q s, l[i]? = some q → (x.qs.map meM.mar)[i]? = some s → k'0 (cx B) 184 [.d q] [] (sT s) [] := fun i q s hq hs => by
  rw [List.getElem?_map] at hs
  obtain ⟨v, hv, r⟩ := r_qs.at hq
  rw [hv] at hs; injection hs with hs; subst hs
  have hmem := List.mem_of_getElem? hv
  have hvs := k'x (sz := meM.sz) hmem
  exact rMe_calls B v q (d - 1) (by change Me.sz v ≤ _ at hvs; omega) (hwf.2 v hmem) (List.all_eq_true.1 m_q v hmem) r
 change (trMar scM meM x).length < big at hlen
 show k'0 (cx B) 129 [_] [] (sT (trMar scM meM x)) []
 unfold trMar trB at hlen ⊢
 have c_b : x.has = true → k'0 (cx B) 41 [iT 1, sT x.p.rmar] [] (sT (pV scM 1 x.has x.p)) [] := fun h => by
  rw [h]
  rw [h] at m_p
  rw [Sc.rmar_may _ (d - 1) m_p]
  exact k'7 B 1 x.p.mar (by omega) (by omega) (by have := x.p.mar_len; omega)
 have h0p : x.has = false → pV scM 1 x.has x.p = [] := fun h => by rw [h]; rfl
 generalize pV scM 1 x.has x.p = P0 at *
 generalize x.qs.map meM.mar = qs at *
 generalize txV 3 x.sch = T3 at *
 generalize x.p.rmar = pr at *
 have hB9 : big = 34359738368 := rfl
 simp only [List.length_append] at hlen
 obtain ⟨xhas, xp, xqs, xsch, xu⟩ := x
 dsimp only at *
 cases xhas
 rotate_left
 ·replace c_b := c_b rfl
  refine l_bw Tryz.func129 0 [] ?_
  refine l_cw [] (c_p) rfl rfl rfl ?_
  refine l_cw [] (c_b) rfl rfl rfl ?_
  refine k'8 (fun i : Nat => l.length - i) (fun i => [(1, .ptr 0 0), (3, sT (P0 ++ psV 2 (qs.take i))), (4, iT i)]) (fun _ => _) (fun i => i ≤ l.length) 0 (by omega) ⟨rfl, by show sT P0 = _; simp [psV], rfl, trivial⟩ rfl 1 rfl (fun _ => rfl) (fun _ => rfl) (fun _ => rfl) ?_
  intro i i1
  refine Y ?_
  by_cases hlt : i < l.length
  ·rw [show decide ((i : Int) < l.length) = true from decide_eq_true (by omega)]
   obtain ⟨q, hqi⟩ : ∃ q, l[i]? = some q := ⟨_, List.getElem?_eq_getElem hlt⟩
   obtain ⟨t, hsi⟩ : ∃ t, qs[i]? = some t := ⟨_, List.getElem?_eq_getElem (by omega)⟩
   have hc := hf i q t hqi hsi
   obtain ⟨e1, e2, e3⟩ := k'3w 2 hsi
   have hB := k'7 B 2 t (by omega) (by omega) (by unfold big; omega)
   obtain ⟨y0, y1, y2, y3, y4, y5, y6, y7, y8, y9, y10, y11, y12, y13, y14, y15, y16, y17, rfl⟩ := Me.Rs_sh r_qs q (List.mem_of_getElem? hqi)
   refine Y ?_
   refine k'1 (.indexAddr (k := .i64) (n := i) (es := l) rfl rfl rfl rfl (.inl ⟨_, rfl⟩) rfl (by omega) (by simpa using hqi) rfl (by decide)) rfl rfl ?_
   refine Y ?_
   refine l_cw [] (hc) rfl rfl rfl ?_
   refine l_cw [] (hB) rfl rfl rfl ?_
   refine k'1 (.addStr (a := P0 ++ psV 2 (qs.take i)) (b := tagV 2 2 ++ (putV t.length ++ t)) rfl rfl rfl (by simp only [List.length_append] at *; omega)) rfl rfl ?_
   rw [List.append_assoc P0, e1]
   refine Y ?_
   rw [wS i (by omega)]
   exact ⟨i + 1, by omega, by omega, ⟨rfl, rfl, rfl, trivial⟩, rfl, k'z rfl⟩
  ·rw [show decide ((i : Int) < l.length) = false from decide_eq_false (by omega), List.take_of_length_le (by omega)]
   refine Y ?_
   refine x_cw [] (c_t) rfl rfl rfl ?_
   refine k'12 (.addStr rfl rfl rfl (by simp only [List.length_append] at *; omega)) rfl rfl rfl ?_
   refine Y ?_
   refine k'12 (.addStr rfl rfl rfl (by simp only [List.length_append] at *; omega)) rfl rfl rfl ?_
   exact Z
 have h0 := h0p rfl
 subst h0
 refine l_bw Tryz.func129 0 [] ?_
 refine k'8 (fun i : Nat => l.length - i) (fun i => [(1, .ptr 0 0), (3, sT ([] ++ psV 2 (qs.take i))), (4, iT i)]) (fun _ => _) (fun i => i ≤ l.length) 0 (by omega) ⟨rfl, by show sT [] = _; simp [psV], rfl, trivial⟩ rfl 1 rfl (fun _ => rfl) (fun _ => rfl) (fun _ => rfl) ?_
 intro i i1
 refine Y ?_
 by_cases hlt : i < l.length
 ·rw [show decide ((i : Int) < l.length) = true from decide_eq_true (by omega)]
  obtain ⟨q, hqi⟩ : ∃ q, l[i]? = some q := ⟨_, List.getElem?_eq_getElem hlt⟩
  obtain ⟨t, hsi⟩ : ∃ t, qs[i]? = some t := ⟨_, List.getElem?_eq_getElem (by omega)⟩
  have hc := hf i q t hqi hsi
  obtain ⟨e1, e2, e3⟩ := k'3w 2 hsi
  have hB := k'7 B 2 t (by omega) (by omega) (by unfold big; omega)
  obtain ⟨y0, y1, y2, y3, y4, y5, y6, y7, y8, y9, y10, y11, y12, y13, y14, y15, y16, y17, rfl⟩ := Me.Rs_sh r_qs q (List.mem_of_getElem? hqi)
  refine Y ?_
  refine k'1 (.indexAddr (k := .i64) (n := i) (es := l) rfl rfl rfl rfl (.inl ⟨_, rfl⟩) rfl (by omega) (by simpa using hqi) rfl (by decide)) rfl rfl ?_
  refine Y ?_
  refine l_cw [] (hc) rfl rfl rfl ?_
  refine l_cw [] (hB) rfl rfl rfl ?_
  refine k'1 (.addStr (a := [] ++ psV 2 (qs.take i)) (b := tagV 2 2 ++ (putV t.length ++ t)) rfl rfl rfl (by simp only [List.length_append] at *; omega)) rfl rfl ?_
  rw [List.append_assoc [], e1]
  refine Y ?_
  rw [wS i (by omega)]
  exact ⟨i + 1, by omega, by omega, ⟨rfl, rfl, rfl, trivial⟩, rfl, k'z rfl⟩
 ·rw [show decide ((i : Int) < l.length) = false from decide_eq_false (by omega), List.take_of_length_le (by omega)]
  refine Y ?_
  refine x_cw [] (c_t) rfl rfl rfl ?_
  refine k'12 (.addStr rfl rfl rfl (by simp only [List.length_append] at *; omega)) rfl rfl rfl ?_
  refine Y ?_
  refine k'12 (.addStr rfl rfl rfl (by simp only [List.length_append] at *; omega)) rfl rfl rfl ?_
  exact Z
set_option maxHeartbeats 4000000 in
theorem rRm_calls (x : Rm) (xa : D) (d : Int) (hbig : rmM.sz x < big) (hwf : rmM.wf x) (hm : rmM.may x d = true) (hx : Rm.R x xa) : k'0 (cx B) 79 [.d xa] [] (sT (rmM.mar x)) [] := by
 have hlen := rmM.len x
 have hlen : (rmM.mar x).length < big := by omega
 obtain ⟨zp, lp, z, l, rfl, r_p, r_qs⟩ := hx
 have hp : Rs.sz x.p < big := by
  change 300 + Rs.sz x.p + _ + _ + _ < big at hbig
  omega
 change trSz rsM smM x < big at hbig
 unfold trSz at hbig
 change trMay rsM smM x d = true at hm
 unfold trMay at hm
 simp only [Bool.and_eq_true, decide_eq_true_eq] at hm
 obtain ⟨⟨⟨⟨hd, m_p⟩, m_t⟩, m_q⟩, m_u⟩ := hm
 have hla := k'22 (sz := smM.sz) (fun y => Sm.sz1 y) x.qs
 have c_p := rRs_calls B x.p _ hp hwf.1 ⟨zp, lp, rfl, r_p⟩
 have c_t : k'0 (cx B) 43 [iT 3, sT x.sch] [] (sT (txV 3 x.sch)) [] := k'j B 3 x.sch (by omega) (by omega) (by omega)
 have hlq := r_qs.1
 have hql : (x.qs.map smM.mar).length = l.length := by rw [List.length_map]; omega
 have hf : ∀ (i : Nat) q s, l[i]? = some q → (x.qs.map smM.mar)[i]? = some s → k'0 (cx B) 129 [.d q] [] (sT s) [] := fun i q s hq hs => by
  rw [List.getElem?_map] at hs
  obtain ⟨v, hv, r⟩ := r_qs.at hq
  rw [hv] at hs; injection hs with hs; subst hs
  have hmem := List.mem_of_getElem? hv
  have hvs := k'x (sz := smM.sz) hmem
  exact rSm_calls B v q (d - 1) (by omega) (hwf.2 v hmem) (List.all_eq_true.1 m_q v hmem) r
 change (trMar rsM smM x).length < big at hlen
 show k'0 (cx B) 79 [_] [] (sT (trMar rsM smM x)) []
 unfold trMar trB at hlen ⊢
 have c_b : x.has = true → k'0 (cx B) 41 [iT 1, sT x.p.rmar] [] (sT (pV rsM 1 x.has x.p)) [] := fun h => by
  rw [h]
  rw [h] at m_p
  rw [Rs.rmar_may _ (d - 1) m_p]
  exact k'7 B 1 x.p.mar (by omega) (by omega) (by have := x.p.mar_len; omega)
 have h0p : x.has = false → pV rsM 1 x.has x.p = [] := fun h => by rw [h]; rfl
 generalize pV rsM 1 x.has x.p = P0 at *
 generalize x.qs.map smM.mar = qs at *
 generalize txV 3 x.sch = T3 at *
 generalize x.p.rmar = pr at *
 have hB9 : big = 34359738368 := rfl
 simp only [List.length_append] at hlen
 obtain ⟨xhas, xp, xqs, xsch, xu⟩ := x
 dsimp only at *
 cases xhas
 rotate_left
 ·replace c_b := c_b rfl
  refine l_bw Tryz.func79 0 [] ?_
  refine l_cw [] (c_p) rfl rfl rfl ?_
  refine l_cw [] (c_b) rfl rfl rfl ?_
  refine k'8 (fun i : Nat => l.length - i) (fun i => [(1, .ptr 0 0), (3, sT (P0 ++ psV 2 (qs.take i))), (4, iT i)]) (fun _ => _) (fun i => i ≤ l.length) 0 (by omega) ⟨rfl, by show sT P0 = _; simp [psV], rfl, trivial⟩ rfl 1 rfl (fun _ => rfl) (fun _ => rfl) (fun _ => rfl) ?_
  intro i i1
  refine Y ?_
  by_cases hlt : i < l.length
  ·rw [show decide ((i : Int) < l.length) = true from decide_eq_true (by omega)]
   obtain ⟨q, hqi⟩ : ∃ q, l[i]? = some q := ⟨_, List.getElem?_eq_getElem hlt⟩
   obtain ⟨t, hsi⟩ : ∃ t, qs[i]? = some t := ⟨_, List.getElem?_eq_getElem (by omega)⟩
   have hc := hf i q t hqi hsi
   obtain ⟨e1, e2, e3⟩ := k'3w 2 hsi
   have hB := k'7 B 2 t (by omega) (by omega) (by unfold big; omega)
   obtain ⟨y0, y1, y2, y3, y4, y5, y6, y7, y8, y9, y10, rfl⟩ := Sm.R_sh r_qs q (List.mem_of_getElem? hqi)
   refine Y ?_
   refine k'1 (.indexAddr (k := .i64) (n := i) (es := l) rfl rfl rfl rfl (.inl ⟨_, rfl⟩) rfl (by omega) (by simpa using hqi) rfl (by decide)) rfl rfl ?_
   refine Y ?_
   refine l_cw [] (hc) rfl rfl rfl ?_
   refine l_cw [] (hB) rfl rfl rfl ?_
   refine k'1 (.addStr (a := P0 ++ psV 2 (qs.take i)) (b := tagV 2 2 ++ (putV t.length ++ t)) rfl rfl rfl (by simp only [List.length_append] at *; omega)) rfl rfl ?_
   rw [List.append_assoc P0, e1]
   refine Y ?_
   rw [wS i (by omega)]
   exact ⟨i + 1, by omega, by omega, ⟨rfl, rfl, rfl, trivial⟩, rfl, k'z rfl⟩
  ·rw [show decide ((i : Int) < l.length) = false from decide_eq_false (by omega), List.take_of_length_le (by omega)]
   refine Y ?_
   refine x_cw [] (c_t) rfl rfl rfl ?_
   refine k'12 (.addStr rfl rfl rfl (by simp only [List.length_append] at *; omega)) rfl rfl rfl ?_
   refine Y ?_
   refine k'12 (.addStr rfl rfl rfl (by simp only [List.length_append] at *; omega)) rfl rfl rfl ?_
   exact Z
 have h0 := h0p rfl
 subst h0
 refine l_bw Tryz.func79 0 [] ?_
 refine k'8 (fun i : Nat => l.length - i) (fun i => [(1, .ptr 0 0), (3, sT ([] ++ psV 2 (qs.take i))), (4, iT i)]) (fun _ => _) (fun i => i ≤ l.length) 0 (by omega) ⟨rfl, by show sT [] = _; simp [psV], rfl, trivial⟩ rfl 1 rfl (fun _ => rfl) (fun _ => rfl) (fun _ => rfl) ?_
 intro i i1
 refine Y ?_
 by_cases hlt : i < l.length
 ·rw [show decide ((i : Int) < l.length) = true from decide_eq_true (by omega)]
  obtain ⟨q, hqi⟩ : ∃ q, l[i]? = some q := ⟨_, List.getElem?_eq_getElem hlt⟩
  obtain ⟨t, hsi⟩ : ∃ t, qs[i]? = some t := ⟨_, List.getElem?_eq_getElem (by omega)⟩
  have hc := hf i q t hqi hsi
  obtain ⟨e1, e2, e3⟩ := k'3w 2 hsi
  have hB := k'7 B 2 t (by omega) (by omega) (by unfold big; omega)
  obtain ⟨y0, y1, y2, y3, y4, y5, y6, y7, y8, y9, y10, rfl⟩ := Sm.R_sh r_qs q (List.mem_of_getElem? hqi)
  refine Y ?_
  refine k'1 (.indexAddr (k := .i64) (n := i) (es := l) rfl rfl rfl rfl (.inl ⟨_, rfl⟩) rfl (by omega) (by simpa using hqi) rfl (by decide)) rfl rfl ?_
  refine Y ?_
  refine l_cw [] (hc) rfl rfl rfl ?_
  refine l_cw [] (hB) rfl rfl rfl ?_
  refine k'1 (.addStr (a := [] ++ psV 2 (qs.take i)) (b := tagV 2 2 ++ (putV t.length ++ t)) rfl rfl rfl (by simp only [List.length_append] at *; omega)) rfl rfl ?_
  rw [List.append_assoc [], e1]
  refine Y ?_
  rw [wS i (by omega)]
  exact ⟨i + 1, by omega, by omega, ⟨rfl, rfl, rfl, trivial⟩, rfl, k'z rfl⟩
 ·rw [show decide ((i : Int) < l.length) = false from decide_eq_false (by omega), List.take_of_length_le (by omega)]
  refine Y ?_
  refine x_cw [] (c_t) rfl rfl rfl ?_
  refine k'12 (.addStr rfl rfl rfl (by simp only [List.length_append] at *; omega)) rfl rfl rfl ?_
  refine Y ?_
  refine k'12 (.addStr rfl rfl rfl (by simp only [List.length_append] at *; omega)) rfl rfl rfl ?_
  exact Z
theorem rBatch_calls (x : Bt) (xa : D) (hbig : x.sz < big) (hwf : x.wf) (hm : x.may = true) (hx : x.R xa) : k'0 (cx B) 35 [.d xa] [] (sT x.mar) [] := by
 have hlen := x.mar_len
 have hlen : x.mar.length < big := by omega
 obtain ⟨z, l, rfl, r_rs⟩ := hx
 unfold Bt.sz at hbig
 unfold Bt.may at hm
 simp only [Bool.and_eq_true] at hm
 have hla := k'22 (sz := rmM.sz) (fun y => Rm.sz1 y) x.rs
 have hlq := r_rs.1
 have hql : (x.rs.map rmM.mar).length = l.length := by rw [List.length_map]; omega
 have hf : ∀ (i : Nat) q s, l[i]? = some q → (x.rs.map rmM.mar)[i]? = some s → k'0 (cx B) 79 [.d q] [] (sT s) [] := fun i q s hq hs => by
  rw [List.getElem?_map] at hs
  obtain ⟨v, hv, r⟩ := r_rs.at hq
  rw [hv] at hs; injection hs with hs; subst hs
  have hmem := List.mem_of_getElem? hv
  have hvs := k'x (sz := rmM.sz) hmem
  exact rRm_calls B v q 31 (by omega) (hwf v hmem) (List.all_eq_true.1 hm.1 v hmem) r
 unfold Bt.mar Bt.hb at hlen ⊢
 generalize x.rs.map rmM.mar = qs at *
 have hB9 : big = 34359738368 := rfl
 simp only [List.length_append] at hlen
 refine l_bw Tryz.func35 0 [] ?_
 refine k'8 (fun i : Nat => l.length - i) (fun i => [(1, .ptr 0 0), (3, sT (psV 1 (qs.take i))), (4, iT i)]) (fun _ => _) (fun i => i ≤ l.length) 0 (by omega) ⟨rfl, rfl, rfl, trivial⟩ rfl 1 rfl (fun _ => rfl) (fun _ => rfl) (fun _ => rfl) ?_
 intro i i1
 refine Y ?_
 by_cases hlt : i < l.length
 ·rw [show decide ((i : Int) < l.length) = true from decide_eq_true (by omega)]
  obtain ⟨q, hqi⟩ : ∃ q, l[i]? = some q := ⟨_, List.getElem?_eq_getElem hlt⟩
  obtain ⟨t, hsi⟩ : ∃ t, qs[i]? = some t := ⟨_, List.getElem?_eq_getElem (by omega)⟩
  have hc := hf i q t hqi hsi
  obtain ⟨e1, e2, e3⟩ := k'3w 1 hsi
  have hB := k'7 B 1 t (by omega) (by omega) (by unfold big; omega)
  obtain ⟨y0, y1, y2, y3, y4, y5, y6, y7, y8, rfl⟩ := Rm.R_sh r_rs q (List.mem_of_getElem? hqi)
  refine Y ?_
  refine k'1 (.indexAddr (k := .i64) (n := i) (es := l) rfl rfl rfl rfl (.inl ⟨_, rfl⟩) rfl (by omega) (by simpa using hqi) rfl (by decide)) rfl rfl ?_
  refine Y ?_
  refine l_cw [] (hc) rfl rfl rfl ?_
  refine l_cw [] (hB) rfl rfl rfl ?_
  refine k'1 (.addStr (a := psV 1 (qs.take i)) (b := tagV 1 2 ++ (putV t.length ++ t)) rfl rfl rfl (by simp only [List.length_append] at *; omega)) rfl rfl ?_
  rw [e1]
  refine Y ?_
  rw [wS i (by omega)]
  exact ⟨i + 1, by omega, by omega, ⟨rfl, rfl, rfl, trivial⟩, rfl, k'z rfl⟩
 ·rw [show decide ((i : Int) < l.length) = false from decide_eq_false (by omega), List.take_of_length_le (by omega)]
  refine Y ?_
  refine k'1 (.addStr rfl rfl rfl (by omega)) rfl rfl ?_
  exact Z
theorem k'4e (x : Bt) (xa : D) (hbig : x.sz < big) (hwf : x.wf) (hx : x.R xa) : k'0 (cx B) 16 [.d xa] [] (.d (.bool x.may)) [] := by
 obtain ⟨z, l, rfl, r_rs⟩ := hx
 unfold Bt.sz at hbig
 have hla := k'22 (sz := rmM.sz) (fun y => Rm.sz1 y) x.rs
 have c_1 := tabb1_calls B
 have c_u := unkb1_calls B x.u 32 (by omega) (by omega) (by omega)
 rw [show decide ((0 : Int) ≤ 32) = true from rfl, Bool.true_and] at c_u
 have hlq := r_rs.1
 have hB9 : big = 34359738368 := rfl
 unfold Bt.may
 refine l_bw Tryz.func16 0 [] ?_
 refine k'8 (fun i : Nat => l.length - i) (fun i => [(1, .ptr 0 0), (3, iT i)]) (fun _ => _) (fun i => i ≤ l.length ∧ (x.rs.take i).all (fun k => rmM.may k 31) = true) 0 ⟨by omega, rfl⟩ ⟨rfl, rfl, trivial⟩ rfl 1 rfl (fun _ => rfl) (fun _ => rfl) (fun _ => rfl) ?_
 rintro i ⟨i1, i2⟩
 refine Y ?_
 by_cases hlt : i < l.length
 ·rw [show decide ((i : Int) < l.length) = true from decide_eq_true (by omega)]
  obtain ⟨q, hqi⟩ : ∃ q, l[i]? = some q := ⟨_, List.getElem?_eq_getElem hlt⟩
  obtain ⟨v, hv, hvr⟩ := r_rs.at hqi
  have hmem := List.mem_of_getElem? hv
  have hvs := k'x (sz := rmM.sz) hmem
  have hc := rMayRm_calls B v q 31 (by omega) (hwf v hmem) hvr (by omega) (by omega)
  obtain ⟨y0, y1, y2, y3, y4, y5, y6, y7, y8, rfl⟩ := Rm.R_sh r_rs q (List.mem_of_getElem? hqi)
  refine Y ?_
  refine k'1 (.indexAddr (k := .i64) (n := i) (es := l) rfl rfl rfl rfl (.inl ⟨_, rfl⟩) rfl (by omega) (by simpa using hqi) rfl (by decide)) rfl rfl ?_
  refine Y ?_
  refine l_cw [] (hc) rfl rfl rfl ?_
  cases hm : rmM.may v 31
  ·rw [show (x.rs.all fun k => rmM.may k 31) = false from by
    cases hh : (x.rs.all fun k => rmM.may k 31) with
    | false => rfl
    | true => have := List.all_eq_true.1 hh v hmem; rw [hm] at this; simp at this]
   exact Z
  refine Y ?_
  rw [wS i (by omega)]
  exact ⟨i + 1, by omega, ⟨by omega, k'1i i2 hv hm⟩, ⟨rfl, rfl, trivial⟩, rfl, k'z rfl⟩
 ·rw [show decide ((i : Int) < l.length) = false from decide_eq_false (by omega)]
  rw [List.take_of_length_le (by omega)] at i2
  rw [i2, Bool.true_and]
  refine Y ?_
  refine x_cw [] (c_1) rfl rfl rfl ?_
  refine k'3 [] (c_u) rfl rfl rfl ?_
  exact Z
theorem rMarshal_calls (x : Bt) (xa : D) (hbig : x.sz < big) (hwf : x.wf) (hx : x.R xa) : k'0 (cx B) 11 [.d xa] [] (if x.may then (if tooB x.mar then .tup [sT [], .d (.int .i64 7)] else .tup [sT x.mar, .d (.int .i64 0)]) else .tup [sT [], .d (.int .i64 8)]) [] := by
 have c1 := k'4e B x xa hbig hwf hx
 have c2 := fun h => rBatch_calls B x xa hbig hwf h hx
 have hlen := x.mar_len
 have hB9 : big = 34359738368 := rfl
 obtain ⟨z, l, rfl, -⟩ := hx
 cases hm : x.may
 ·rw [hm] at c1
  rw [if_neg (by simp)]
  refine l_bw Tryz.func11 0 [] ?_
  refine k'2 [] (c1) rfl rfl rfl ?_
  exact Z
 rw [hm] at c1
 replace c2 := c2 hm
 rw [if_pos rfl]
 by_cases ht : tooB x.mar
 ·rw [if_pos ht]
  unfold tooB at ht
  refine l_bw Tryz.func11 0 [] ?_
  refine l_cw [] (c1) rfl rfl rfl ?_
  refine l_cw [] (c2) rfl rfl rfl ?_
  rw [show decide ((x.mar.length : Int) > 262144) = true from decide_eq_true (by omega)]
  exact Z
 ·rw [if_neg ht]
  unfold tooB at ht
  refine l_bw Tryz.func11 0 [] ?_
  refine l_cw [] (c1) rfl rfl rfl ?_
  refine l_cw [] (c2) rfl rfl rfl ?_
  rw [show decide ((x.mar.length : Int) > 262144) = false from decide_eq_false (by omega)]
  exact Z
end
section
theorem refPoints_calls (x : Me) (xa : D) (hb : x.points < 4611686018427387904) (hx : x.R xa) : k'0 (cx B) 58 [.d xa] [] (iT x.points) [] := by
 obtain ⟨z_nbs, l_nbs, z_his, l_his, z_ehs, l_ehs, z_sus, l_sus, z_mets, l_mets, rfl, r_nbs, r_his, r_ehs, r_sus, r_mets⟩ := hx
 unfold Me.points at hb ⊢
 refine l_bw Tryz.func58 0 [] ?_
 rw [r_nbs.1, r_his.1, r_ehs.1, r_sus.1]
 rw [show IntKind.i64.wrap ((x.dat.nbs.length : Int) + (x.dat.his.length : Int)) = ((x.dat.nbs.length + x.dat.his.length : Nat) : Int) by rw [k'10 (by omega) (by omega)]; omega]
 rw [show IntKind.i64.wrap (((x.dat.nbs.length + x.dat.his.length : Nat) : Int) + (x.dat.ehs.length : Int)) = ((x.dat.nbs.length + x.dat.his.length + x.dat.ehs.length : Nat) : Int) by rw [k'10 (by omega) (by omega)]; omega]
 rw [show IntKind.i64.wrap (((x.dat.nbs.length + x.dat.his.length + x.dat.ehs.length : Nat) : Int) + (x.dat.sus.length : Int)) = ((x.dat.nbs.length + x.dat.his.length + x.dat.ehs.length + x.dat.sus.length : Nat) : Int) by rw [k'10 (by omega) (by omega)]; omega]
 exact Z
end
section
set_option maxHeartbeats 4000000 in
theorem rTotal_calls (x : Bt) (xa : D) (hbig : x.sz < big) (hx : x.R xa) : k'0 (cx B) 21 [.d xa] [] (iT (x.sum Me.points)) [] := by
 have hg : ∀ (m : Me) (ma : D), m.sz < big → m.R ma → k'0 (cx B) 58 [.d ma] [] (iT m.points) [] := fun m ma h hr => refPoints_calls B m ma (by have := m.points_le; unfold big at h; omega) hr
 have hs := Me.points_le
 generalize Me.points = g at *
 obtain ⟨z, l, rfl, r1⟩ := hx
 unfold Bt.sz big at hbig
 have hl := r1.1
 have hT := k'4b (Rm.sum_le hs) x.rs
 have hla := k'22 Rm.sz1 x.rs
 unfold Bt.sum
 refine l_bw Tryz.func21 0 [] ?_
 refine k'8 (fun i : Nat => l.length - i) (fun i => [(1, .ptr 0 0), (3, iT (((x.rs.take i).map (Rm.sum g)).sum : Nat)), (4, iT i)]) (fun _ => [.mu [.d (.sl z l), .d (.str x.u)]]) (fun i => i ≤ l.length) 0 (by omega) ⟨rfl, rfl, rfl, trivial⟩ rfl 1 rfl (fun _ => rfl) (fun _ => rfl) (fun _ => rfl) ?_
 intro i i1
 refine Y ?_
 refine k'13 rfl (fun hd => ?_) (fun hd => ?_)
 ·have hlt : i < l.length := by have := of_decide_eq_true hd; omega
  obtain ⟨ya, hyi⟩ : ∃ y, l[i]? = some y := ⟨_, List.getElem?_eq_getElem hlt⟩
  obtain ⟨v, hv, hvr⟩ := r1.at hyi
  obtain ⟨e1, e2⟩ := sumTake (Rm.sum g) hv
  have b1 := k'x (sz := rmM.sz) (List.mem_of_getElem? hv)
  generalize ((x.rs.take i).map (Rm.sum g)).sum = acc at *
  obtain ⟨zp, lp, z2, l2, rfl, -, r2⟩ := hvr
  have hl2 := r2.1
  have hT2 := k'4b (Sm.sum_le hs) v.qs
  have hla2 := k'22 Sm.sz1 v.qs
  change trSz rsM smM v ≤ _ at b1
  unfold trSz at b1
  rw [show Rm.sum g v = (v.qs.map (Sm.sum g)).sum from rfl] at e1 e2
  refine Y ?_
  refine k'8 (fun j : Nat => l2.length - j) (fun j => [(1, .ptr 0 0), (3, iT (acc + ((v.qs.take j).map (Sm.sum g)).sum : Nat)), (4, iT i), (5, iT j)]) (fun _ => [.mu [.d (.sl z l), .d (.str x.u)]]) (fun j => j ≤ l2.length) 0 (by omega) ⟨rfl, rfl, rfl, rfl, trivial⟩ rfl 1 rfl (fun _ => rfl) (fun _ => rfl) (fun _ => rfl) ?_
  intro j j1
  refine Y ?_
  refine k'1 (.indexAddr (k := .i64) (n := i) (es := l) rfl rfl rfl rfl (.inl ⟨_, rfl⟩) rfl (by omega) (by simpa using hyi) rfl (by decide)) rfl rfl ?_
  refine Y ?_
  refine k'13 rfl (fun hd2 => ?_) (fun hd2 => ?_)
  ·have hlt2 : j < l2.length := by have := of_decide_eq_true hd2; omega
   obtain ⟨ya, hyj⟩ : ∃ y, l2[j]? = some y := ⟨_, List.getElem?_eq_getElem hlt2⟩
   obtain ⟨w, hw, hwr⟩ := r2.at hyj
   obtain ⟨e3, e4⟩ := sumTake (Sm.sum g) hw
   have b2 := k'x (sz := smM.sz) (List.mem_of_getElem? hw)
   generalize ((v.qs.take j).map (Sm.sum g)).sum = acc2 at *
   obtain ⟨zq, lq, z3, l3, rfl, -, r3⟩ := hwr
   have hl3 := r3.1
   have hT3 := k'4b hs w.qs
   have hla3 := k'22 (sz := Me.sz) (fun x => by unfold Me.sz; omega) w.qs
   change trSz scM meM w ≤ _ at b2
   unfold trSz at b2
   change 300 + _ + (w.qs.map Me.sz).sum + _ + _ ≤ _ at b2
   rw [show Sm.sum g w = (w.qs.map g).sum from rfl] at e3 e4
   refine Y ?_
   refine k'1 (.indexAddr (k := .i64) (n := i) (es := l) rfl rfl rfl rfl (.inl ⟨_, rfl⟩) rfl (by omega) (by simpa using hyi) rfl (by decide)) rfl rfl ?_
   refine Y ?_
   refine k'1 (.indexAddr (k := .i64) (n := j) (es := l2) rfl rfl rfl rfl (.inl ⟨_, rfl⟩) rfl (by omega) (by simpa using hyj) rfl (by decide)) rfl rfl ?_
   refine Y ?_
   refine k'8 (fun k : Nat => l3.length - k) (fun k => [(1, .ptr 0 0), (3, iT (acc + (acc2 + ((w.qs.take k).map g).sum) : Nat)), (4, iT i), (5, iT j), (6, .d (.sl z3 l3)), (7, iT k)]) (fun _ => [.mu [.d (.sl z l), .d (.str x.u)]]) (fun k => k ≤ l3.length) 0 (by omega) ⟨rfl, rfl, rfl, rfl, rfl, rfl, trivial⟩ rfl 1 rfl (fun _ => rfl) (fun _ => rfl) (fun _ => rfl) ?_
   intro k k1
   refine Y ?_
   refine k'13 rfl (fun hd3 => ?_) (fun hd3 => ?_)
   ·have hlt3 : k < l3.length := by have := of_decide_eq_true hd3; omega
    obtain ⟨ma, hmk⟩ : ∃ y, l3[k]? = some y := ⟨_, List.getElem?_eq_getElem hlt3⟩
    obtain ⟨m, hm, hmr⟩ := r3.at hmk
    obtain ⟨e5, e6⟩ := sumTake g hm
    have b3 := k'x (sz := Me.sz) (List.mem_of_getElem? hm)
    have hc := hg m ma (by unfold big; omega) hmr
    generalize ((w.qs.take k).map g).sum = acc3 at *
    obtain ⟨a0, a1, a2, a3, a4, a5, a6, a7, a8, a9, a10, a11, a12, a13, a14, a15, a16, a17, rfl⟩ := Me.R_sh hmr
    refine Y ?_
    refine k'1 (.indexAddr (k := .i64) (n := k) (es := l3) rfl rfl rfl rfl (.inl ⟨_, rfl⟩) rfl (by omega) (by simpa using hmk) rfl (by decide)) rfl rfl ?_
    refine Y ?_
    refine l_cw [] (hc) rfl rfl rfl ?_
    rw [show IntKind.i64.wrap (((acc + (acc2 + acc3) : Nat) : Int) + (g m : Int)) = ((acc + (acc2 + (acc3 + g m)) : Nat) : Int) by rw [k'10 (by omega) (by omega)]; omega, show IntKind.i64.wrap ((k : Int) + 1) = ((k + 1 : Nat) : Int) by rw [k'10 (by omega) (by omega)]; omega]
    exact ⟨k + 1, by omega, by omega, ⟨rfl, by rw [e5]; rfl, rfl, rfl, rfl, rfl, trivial⟩, rfl, k'z rfl⟩
   ·have hge : k = w.qs.length := by have := of_decide_eq_false hd3; omega
    subst hge
    rw [List.take_length]
    refine Y ?_
    rw [wS j (by omega)]
    exact ⟨j + 1, by omega, by omega, ⟨rfl, by rw [e3]; rfl, rfl, rfl, trivial⟩, rfl, k'z rfl⟩
  ·have hge : j = v.qs.length := by have := of_decide_eq_false hd2; omega
   subst hge
   rw [List.take_length]
   refine Y ?_
   rw [wS i (by omega)]
   exact ⟨i + 1, by omega, by omega, ⟨rfl, by rw [e1]; rfl, rfl, trivial⟩, rfl, k'z rfl⟩
 ·have hge : i = x.rs.length := by have := of_decide_eq_false hd; omega
  subst hge
  rw [List.take_length]
  exact Z
def one1 (_ : Me) : Nat := 1
theorem one1_le (m : Me) : one1 m ≤ m.sz := by unfold one1 Me.sz; omega
theorem sum_one (l : List Me) : (l.map one1).sum = l.length := by
 induction l with
 | nil => rfl
 | cons x l ih => rw [List.map_cons, List.sum_cons, ih, List.length_cons]; unfold one1; omega
theorem Count1_calls (m : Me) (ma : D) (hr : m.R ma) : k'0 (cx B) 59 [.d ma] [] (iT (one1 m)) [] := by
 obtain ⟨a0, a1, a2, a3, a4, a5, a6, a7, a8, a9, a10, a11, a12, a13, a14, a15, a16, a17, rfl⟩ := Me.R_sh hr
 refine l_b0 Tryz.func59 0 [] ?_
 exact Z
theorem Bt_Count_calls (x : Bt) (xa : D) (hbig : x.sz < big) (hx : x.R xa) : k'0 (cx B) 22 [.d xa] [] (iT (x.sum one1)) [] := by
 have c := total_calls B 59 one1 (fun m ma h hr => Count1_calls B m ma hr) one1_le x xa hbig hx
 obtain ⟨z, l, rfl, r1⟩ := hx
 refine l_bw Tryz.func22 0 [] ?_
 refine k'2 [] (c) rfl rfl rfl ?_
 exact Z
set_option maxHeartbeats 4000000 in
theorem rCount_calls (x : Bt) (xa : D) (hbig : x.sz < big) (hx : x.R xa) : k'0 (cx B) 23 [.d xa] [] (iT (x.sum one1)) [] := by
 have hs := one1_le
 obtain ⟨z, l, rfl, r1⟩ := hx
 unfold Bt.sz big at hbig
 have hl := r1.1
 have hT := k'4b (Rm.sum_le hs) x.rs
 have hla := k'22 Rm.sz1 x.rs
 unfold Bt.sum
 refine l_bw Tryz.func23 0 [] ?_
 refine k'8 (fun i : Nat => l.length - i) (fun i => [(1, .ptr 0 0), (3, iT (((x.rs.take i).map (Rm.sum one1)).sum : Nat)), (4, iT i)]) (fun _ => [.mu [.d (.sl z l), .d (.str x.u)]]) (fun i => i ≤ l.length) 0 (by omega) ⟨rfl, rfl, rfl, trivial⟩ rfl 1 rfl (fun _ => rfl) (fun _ => rfl) (fun _ => rfl) ?_
 intro i i1
 refine Y ?_
 refine k'13 rfl (fun hd => ?_) (fun hd => ?_)
 ·have hlt : i < l.length := by have := of_decide_eq_true hd; omega
  obtain ⟨ya, hyi⟩ : ∃ y, l[i]? = some y := ⟨_, List.getElem?_eq_getElem hlt⟩
  obtain ⟨v, hv, hvr⟩ := r1.at hyi
  obtain ⟨e1, e2⟩ := sumTake (Rm.sum one1) hv
  have b1 := k'x (sz := rmM.sz) (List.mem_of_getElem? hv)
  generalize ((x.rs.take i).map (Rm.sum one1)).sum = acc at *
  obtain ⟨zp, lp, z2, l2, rfl, -, r2⟩ := hvr
  have hl2 := r2.1
  have hT2 := k'4b (Sm.sum_le hs) v.qs
  have hla2 := k'22 Sm.sz1 v.qs
  change trSz rsM smM v ≤ _ at b1
  unfold trSz at b1
  rw [show Rm.sum one1 v = (v.qs.map (Sm.sum one1)).sum from rfl] at e1 e2
  refine Y ?_
  refine k'8 (fun j : Nat => l2.length - j) (fun j => [(1, .ptr 0 0), (3, iT (acc + ((v.qs.take j).map (Sm.sum one1)).sum : Nat)), (4, iT i), (5, iT j)]) (fun _ => [.mu [.d (.sl z l), .d (.str x.u)]]) (fun j => j ≤ l2.length) 0 (by omega) ⟨rfl, rfl, rfl, rfl, trivial⟩ rfl 1 rfl (fun _ => rfl) (fun _ => rfl) (fun _ => rfl) ?_
  intro j j1
  refine Y ?_
  refine k'1 (.indexAddr (k := .i64) (n := i) (es := l) rfl rfl rfl rfl (.inl ⟨_, rfl⟩) rfl (by omega) (by simpa using hyi) rfl (by decide)) rfl rfl ?_
  refine Y ?_
  refine k'13 rfl (fun hd2 => ?_) (fun hd2 => ?_)
  ·have hlt2 : j < l2.length := by have := of_decide_eq_true hd2; omega
   obtain ⟨ya, hyj⟩ : ∃ y, l2[j]? = some y := ⟨_, List.getElem?_eq_getElem hlt2⟩
   obtain ⟨w, hw, hwr⟩ := r2.at hyj
   obtain ⟨e3, e4⟩ := sumTake (Sm.sum one1) hw
   generalize ((v.qs.take j).map (Sm.sum one1)).sum = acc2 at *
   obtain ⟨zq, lq, z3, l3, rfl, -, r3⟩ := hwr
   have hl3 := r3.1
   rw [show Sm.sum one1 w = (w.qs.map one1).sum from rfl, sum_one] at e3 e4
   refine Y ?_
   refine k'1 (.indexAddr (k := .i64) (n := i) (es := l) rfl rfl rfl rfl (.inl ⟨_, rfl⟩) rfl (by omega) (by simpa using hyi) rfl (by decide)) rfl rfl ?_
   refine Y ?_
   refine k'1 (.indexAddr (k := .i64) (n := j) (es := l2) rfl rfl rfl rfl (.inl ⟨_, rfl⟩) rfl (by omega) (by simpa using hyj) rfl (by decide)) rfl rfl ?_
   refine Y ?_
   rw [show IntKind.i64.wrap (((acc + acc2 : Nat) : Int) + (l3.length : Int)) = ((acc + (acc2 + w.qs.length) : Nat) : Int) by rw [k'10 (by omega) (by omega)]; omega, show IntKind.i64.wrap ((j : Int) + 1) = ((j + 1 : Nat) : Int) by rw [k'10 (by omega) (by omega)]; omega]
   exact ⟨j + 1, by omega, by omega, ⟨rfl, by rw [e3]; rfl, rfl, rfl, trivial⟩, rfl, k'z rfl⟩
  ·have hge : j = v.qs.length := by have := of_decide_eq_false hd2; omega
   subst hge
   rw [List.take_length]
   refine Y ?_
   rw [wS i (by omega)]
   exact ⟨i + 1, by omega, by omega, ⟨rfl, by rw [e1]; rfl, rfl, trivial⟩, rfl, k'z rfl⟩
 ·have hge : i = x.rs.length := by have := of_decide_eq_false hd; omega
  subst hge
  rw [List.take_length]
  exact Z
theorem Rp.may_chain (x : Rp) : x.may = ((x.has || (x.p.rej == 0 && (x.p.msg == [] && x.p.u == []))) && (txt x.p.msg && (k'1a tbAns x.p.u 31 && k'1a tb1 x.u 32))) := by
 unfold Rp.may mayP
 obtain ⟨h, p, u⟩ := x
 dsimp only
 cases h
 rotate_left
 ·show ((decide ((0 : Int) ≤ 31) && txt p.msg && k'1a tbAns p.u 31) && _) = _
  simp [Bool.and_assoc]
 show (p.eq noSx && _) = _
 cases he : p.eq noSx
 rotate_left
 ·have := Sx.none _ he
  subst this
  simp only [noSx]
  rw [show k'1a tbAns [] 31 = true from rfl]
  rfl
 rw [show (false || (p.rej == 0 && (p.msg == [] && p.u == []))) = false by
  unfold Sx.eq noSx at he
  rw [Bool.and_assoc] at he
  rw [Bool.false_or]; exact he]
 rfl
theorem k'3u (x : Rp) (hbig : x.sz < big) : k'0 (cx B) 18 [.d x.d] [] (.d (.bool x.may)) [] := by
 unfold Rp.sz Sx.sz at hbig
 have c_t := k'17 B x.p.msg (by omega)
 have c_A := tabbA_calls B
 have c_1 := tabb1_calls B
 have c_i := unkbA_calls B x.p.u 31 (by omega) (by omega) (by omega)
 have c_u := unkb1_calls B x.u 32 (by omega) (by omega) (by omega)
 rw [show decide ((0 : Int) ≤ 31) = true from rfl, Bool.true_and] at c_i
 rw [show decide ((0 : Int) ≤ 32) = true from rfl, Bool.true_and] at c_u
 rw [Rp.may_chain]
 unfold Rp.d
 obtain ⟨h, ⟨rej, msg, pu⟩, u⟩ := x
 dsimp only at *
 generalize k'1a tbAns pu 31 = r1 at *
 generalize k'1a tb1 u 32 = r2 at *
 generalize hr0 : txt msg = r0 at *
 cases h
 rotate_left
 ·refine l_bw Tryz.func18 0 [] ?_
  refine k'23 [] (c_t) rfl rfl rfl rfl rfl ?_
  cases r0
  ·exact Z
  refine Y ?_
  refine k'3 [] (c_A) rfl rfl rfl ?_
  refine xw ?_
  refine Y ?_
  refine k'3 [] (c_i) rfl rfl rfl ?_
  refine xw ?_
  refine Y ?_
  cases r1
  ·refine xw ?_
   exact Z
  refine xw ?_
  refine Y ?_
  refine k'3 [] (c_1) rfl rfl rfl ?_
  refine xw ?_
  refine Y ?_
  refine k'3 [] (c_u) rfl rfl rfl ?_
  refine xw ?_
  exact Z
 refine l_bw Tryz.func18 0 [] ?_
 cases h1 : (rej != 0)
 rotate_left
 ·rw [show (rej == 0) = false by simpa using h1]
  exact Z
 rw [show (rej == 0) = true by simpa using h1]
 refine Y ?_
 cases msg with
 | cons m0 m1 =>
  exact Z
 | nil =>
  cases pu with
  | cons m0 m1 =>
   exact Z
  | nil =>
   obtain rfl : r0 = true := hr0.symm
   refine Y ?_
   refine k'23 [] (c_t) rfl rfl rfl rfl rfl ?_
   refine k'3 [] (c_A) rfl rfl rfl ?_
   refine xw ?_
   refine Y ?_
   refine k'3 [] (c_i) rfl rfl rfl ?_
   refine xw ?_
   refine Y ?_
   cases r1
   ·refine xw ?_
    exact Z
   refine xw ?_
   refine Y ?_
   refine k'3 [] (c_1) rfl rfl rfl ?_
   refine xw ?_
   refine Y ?_
   refine k'3 [] (c_u) rfl rfl rfl ?_
   refine xw ?_
   exact Z
theorem rAnswer_calls (x : Rp) (hbig : x.sz < big) (hwf : x.wf) : k'0 (cx B) 13 [.d x.d] [] (if x.may then (if tooB x.mar then .tup [sT [], .d (.int .i64 7)] else .tup [sT x.mar, .d (.int .i64 0)]) else .tup [sT [], .d (.int .i64 8)]) [] := by
 have cm := k'3u B x hbig
 have hl0 := x.p.len
 have hl1 := x.mar_len
 have hB9 : big = 34359738368 := rfl
 unfold Rp.sz at hbig hl1
 unfold Rp.d at *
 cases hm : x.may
 ·rw [hm] at cm
  rw [if_neg (by simp)]
  refine l_bw Tryz.func13 0 [] ?_
  refine k'2 [] (cm) rfl rfl rfl ?_
  exact Z
 rw [hm] at cm
 rw [if_pos rfl]
 have fin : (if tooB x.mar then T.tup [sT [], .d (.int .i64 7)] else .tup [sT x.mar, .d (.int .i64 0)]) = (if decide ((x.mar.length : Int) > 262144) = true then T.tup [sT [], .d (.int .i64 7)] else .tup [sT x.mar, .d (.int .i64 0)]) := by
  by_cases h : tooB x.mar
  ·rw [if_pos h]; unfold tooB at h; rw [if_pos (decide_eq_true (by omega))]
  ·rw [if_neg h]; unfold tooB at h; rw [if_neg (by simp; omega)]
 rw [fin]
 clear fin
 cases hh : x.has
 ·have e : x.u = x.mar := by unfold Rp.mar pV; rw [hh]; rfl
  rw [hh] at cm
  have hl : x.mar.length < big := by omega
  rw [e] at cm ⊢
  generalize x.mar = s at *
  refine l_bw Tryz.func13 0 [] ?_
  refine l_cw [] (cm) rfl rfl rfl ?_
  refine k'1 (.addStr rfl rfl rfl (by simp; omega)) rfl rfl ?_
  refine Y ?_
  rw [List.nil_append]
  cases hd : decide ((s.length : Int) > 262144)
  rotate_left
  ·exact Z
  exact Z
 have e : paV 1 x.p.mar ++ x.u = x.mar := by unfold Rp.mar pV; rw [hh]; rfl
 have hle := paV_ge 1 x.p.mar
 have em : x.p.mar = vrV 1 (k'45 x.p.rej) ++ txV 2 x.p.msg ++ x.p.u := rfl
 have hr : IntKind.u64.wrap x.p.rej = (k'45 x.p.rej : Int) := by
  have := hwf
  unfold Rp.wf Sx.wf at this
  unfold k'45
  rw [IntKind.wrap_u64]
  split <;> omega
 have c1 := k'18 B 1 (k'45 x.p.rej) (by omega) (by omega) (tempN_lt64 hwf.1 hwf.2)
 have c2 : k'0 (cx B) 43 [iT 2, sT x.p.msg] [] (sT (txV 2 x.p.msg)) [] := k'j B 2 x.p.msg (by omega) (by omega) (by unfold Sx.sz at hbig; omega)
 have c3 : k'0 (cx B) 41 [iT 1, sT x.p.mar] [] (sT (paV 1 x.p.mar)) [] := k'7 B 1 x.p.mar (by omega) (by omega) (by omega)
 have hl : x.mar.length < big := by omega
 have hl2 : x.p.mar.length < big := by omega
 rw [← e] at hl ⊢
 rw [hh] at cm
 clear e hle hl0 hl1
 rw [em] at hl2
 generalize paV 1 x.p.mar = o3 at *
 rw [em] at c3
 generalize vrV 1 (k'45 x.p.rej) = o1 at *
 generalize txV 2 x.p.msg = o2 at *
 simp only [List.length_append] at hl hl2
 refine l_bw Tryz.func13 0 [] ?_
 refine l_cw [] (cm) rfl rfl rfl ?_
 rw [hr]
 refine x_cw [] (c1) rfl rfl rfl ?_
 refine x_cw [] (c2) rfl rfl rfl ?_
 refine k'12 (.addStr rfl rfl rfl (by omega)) rfl rfl rfl ?_
 refine Y ?_
 refine k'12 (.addStr rfl rfl rfl (by simp only [List.length_append]; omega)) rfl rfl rfl ?_
 refine Y ?_
 refine x_cw [] (c3) rfl rfl rfl ?_
 refine k'1 (.addStr rfl rfl rfl (by omega)) rfl rfl ?_
 refine Y ?_
 cases hd : decide (((o3 ++ x.u).length : Int) > 262144)
 rotate_left
 ·exact Z
 exact Z
end
