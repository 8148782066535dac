/- The reference: values and attributes, are they alike? -/
import Derived.Test.YtcfkbpddmdfbaaaGreatDoorPAB
import Derived.Test.YtcfkbpddmdfbaaaGreatDoorR6
import Derived.Test.YtcfkbpddmdfbaaaGreatDoorNW
import Derived.Test.YtcfkbpddmdfbaaaGreatDoorRW
import Derived.Test.YtcfkbpddmdfbaaaGreatDoorCW
set_option linter.unusedSimpArgs false
set_option linter.unusedVariables false
set_option maxRecDepth 100000
namespace Go.Proofs.YtcfkbpddmdfbaaaGreatDoor
open Go Go.Abs
variable (B : Fr)
section
/-! A value, record by record. -/
end
section
def Em.setU (x : Em) (u : List UInt8) : Em := { x with u := u }
variable {s w t : List UInt8} {d : Int} {x y : Em}
end
section
theorem tabEm_calls : k'0 (cx B) 423 [] [] (.d (.sl false ([17, 25, 34, 42, 49, 58].map iD))) [] := by
 refine l_bw Tryz.func423 0 [] ?_
 (try refine k'1t rfl ?_)
 refine k'1 (.buildSlice (es := [17, 25, 34, 42, 49, 58].map iD) rfl rfl rfl rfl rfl rfl (by intro x hx; simp [iD] at hx; rcases hx with rfl | rfl | rfl | rfl | rfl | rfl <;> rfl) (by decide) (by decide) (by decide)) rfl rfl ?_
 exact Z
theorem tbE_big {n k : Nat} (hn : 8 ≤ n) : tbE n k = false := by
 unfold tbE
 simp
 (repeat' split) <;> omega
theorem tk_Em (n k : Nat) (hk : k < 8) : tkB [17, 25, 34, 42, 49, 58] n k = tbE n k := by
 by_cases hn : n < 8
 ·exact (by decide : ∀ n < 8, ∀ k < 8, tkB [17, 25, 34, 42, 49, 58] n k = tbE n k) n hn k hk
 ·rw [show tkB [17, 25, 34, 42, 49, 58] n k = false by unfold tkB; simp; omega, tbE_big (by omega)]
end
section
set_option maxHeartbeats 8000000 in
theorem rMayEm_calls (x : Em) (xa : D) (d : Int) (hbig : x.sz < big) (hx : x.R xa) (hd1 : -9223372036854775808 ≤ d) (hd2 : d < 9223372036854775808) : k'0 (cx B) 355 [.d xa, .d (.int .i64 d)] [] (.d (.bool (x.may d))) [] := by
 obtain ⟨z_attrs, l_attrs, rfl, r_attrs⟩ := hx
 unfold Em.sz at hbig
 unfold big at hbig
 have c_u := k'c B [17, 25, 34, 42, 49, 58] (by decide) (by decide) x.u d (by unfold big; omega) (by omega) hd2
 rw [k'47 tk_Em] at c_u
 have c_t := tabEm_calls B
 have q_attrs : 0 ≤ d → k'0 (cx B) 148 [.d (.sl z_attrs l_attrs), .d (.int .i64 (d - 1))] [] (.d (.bool (x.attrs.all fun k => k.may (d - 1)))) [] := fun h => k'15 B x.attrs z_attrs l_attrs (d - 1) (by unfold big; omega) r_attrs (by omega) (by omega)
 have hR : x.may d = (decide (d ≥ 0) && (decide (x.kind ≥ 0) && (decide (x.kind ≤ 2) && ((decide (x.kind > 0) || ((x.n : Int) == 0)) && ((x.attrs.all fun k => k.may (d - 1)) && k'1a tbE x.u d))))) := by
  unfold Em.may mayNum
  rw [show ((x.n : Int) == 0) = (x.n == 0) from ibeq x.n 0]
  rw [Bool.eq_iff_iff]
  simp only [Bool.and_eq_true, ge_iff_le, decide_eq_true_eq, Bool.not_eq_true', decide_eq_false_iff_not, Int.not_lt]
  constructor <;> (intro h; simp only [h, and_self, true_and, and_true])
 rw [hR]
 clear hR
 refine l_bw Tryz.func355 0 [] ?_
 refine xw ?_
 cases hd : decide (d ≥ 0)
 ·refine xw ?_
  exact Z
 have hd0 : 0 ≤ d := of_decide_eq_true hd
 replace q_attrs := q_attrs hd0
 rw [decide_eq_true hd0, Bool.true_and] at c_u
 refine xw ?_
 refine Y ?_
 cases h_k1 : decide (x.kind ≥ 0)
 ·refine xw ?_
  exact Z
 refine xw ?_
 refine Y ?_
 cases h_k2 : decide (x.kind ≤ 2)
 ·refine xw ?_
  exact Z
 refine xw ?_
 refine Y ?_
 cases h_k3 : decide (x.kind > 0)
 rotate_left
 ·refine xw ?_
  refine Y ?_
  rw [k'5 1 (by omega) (by omega) (by omega) hd2]
  refine k'3 [] (q_attrs) rfl rfl rfl ?_
  refine xw ?_
  refine Y ?_
  cases h_attrs : (x.attrs.all fun k => k.may (d - 1))
  ·refine xw ?_
   exact Z
  refine xw ?_
  refine Y ?_
  refine k'3 [] (c_t) rfl rfl rfl ?_
  refine xw ?_
  refine Y ?_
  refine k'3 [] (c_u) rfl rfl rfl ?_
  refine xw ?_
  exact Z
 refine xw ?_
 refine Y ?_
 cases h_n : ((x.n : Int) == 0)
 ·refine xw ?_
  exact Z
 refine xw ?_
 refine Y ?_
 rw [k'5 1 (by omega) (by omega) (by omega) hd2]
 refine k'3 [] (q_attrs) rfl rfl rfl ?_
 refine xw ?_
 refine Y ?_
 cases h_attrs : (x.attrs.all fun k => k.may (d - 1))
 ·refine xw ?_
  exact Z
 refine xw ?_
 refine Y ?_
 refine k'3 [] (c_t) rfl rfl rfl ?_
 refine xw ?_
 refine Y ?_
 refine k'3 [] (c_u) rfl rfl rfl ?_
 refine xw ?_
 exact Z
theorem MayEms_L (d : Int) (z : Bool) (xs : List D) (r : Nat → Bool) (hl : xs.length < 9223372036854775807) (hx : ∀ x ∈ xs, EmSh x) (hf : ∀ (i : Nat) x, xs[i]? = some x → k'0 (cx B) 355 [.d x, .d (.int .i64 d)] [] (.d (.bool (r i))) []) :
  k'0 (cx B) 266 [.d (.sl z xs), .d (.int .i64 d)] [] (.d (.bool ((List.range xs.length).all r))) [] := by
 refine l_bw Tryz.func266 0 [] ?_
 refine k'8 (fun i : Nat => xs.length - i) (fun i => [(0, .d (.sl z xs)), (1, .d (.int .i64 d)), (5, iT i)]) (fun _ => []) (fun i => i ≤ xs.length ∧ (List.range i).all r = true) 0 ⟨by omega, rfl⟩ ⟨rfl, rfl, rfl, trivial⟩ rfl 0 rfl (fun _ => rfl) (fun _ => rfl) (fun _ => rfl) ?_
 rintro i ⟨i1, i2⟩
 refine Y ?_
 by_cases hlt : i < xs.length
 ·rw [show decide ((i : Int) < xs.length) = true from decide_eq_true (by omega)]
  obtain ⟨x, hxi⟩ : ∃ x, xs[i]? = some x := ⟨_, List.getElem?_eq_getElem hlt⟩
  have hc := hf i x hxi
  obtain ⟨a0, a1, a2, a3, a4, a5, a6, a7, rfl⟩ := hx x (List.mem_of_getElem? hxi)
  have hin : (List.range xs.length).all r = true → r i = true := fun h => List.all_eq_true.1 h i (List.mem_range.2 hlt)
  refine Y ?_
  refine k'1 (.indexAddr (k := .i64) (n := i) (es := xs) rfl rfl rfl rfl (.inl ⟨_, rfl⟩) rfl (by omega) (by simpa using hxi) rfl (by decide)) rfl rfl ?_
  refine Y ?_
  refine l_cw [] (hc) rfl rfl rfl ?_
  cases hr : r i
  ·rw [show (List.range xs.length).all r = false by cases hh : (List.range xs.length).all r with | false => rfl | true => rw [hin hh] at hr; simp at hr]
   exact Z
  refine Y ?_
  rw [wS i (by omega)]
  exact ⟨i + 1, by omega, ⟨by omega, by rw [List.range_succ, List.all_append, i2]; simp [hr]⟩, ⟨rfl, rfl, rfl, trivial⟩, rfl, k'z rfl⟩
 ·have hge : i = xs.length := by omega
  subst hge
  rw [i2, show decide ((xs.length : Int) < xs.length) = false from decide_eq_false (by omega)]
  exact Z
theorem k'3t {a : List Em} {xs : List D} (z : Bool) (d : Int) (hb : (a.map Em.sz).sum < big) (hd1 : -9223372036854775808 ≤ d) (hd2 : d < 9223372036854775808) (hR : RsOf Em.R a xs) : k'0 (cx B) 266 [.d (.sl z xs), .d (.int .i64 d)] [] (.d (.bool (a.all fun k => k.may d))) [] := by
 have hla := k'22 (sz := Em.sz) (fun x => by unfold Em.sz; omega) a
 have h := MayEms_L B d z xs (atB (fun k => k.may d) a) (by rw [hR.1]; unfold big at hb; omega) (Em.Rs_sh hR) (fun i x hx => by
  obtain ⟨v, hv, r1⟩ := hR.at hx
  have hm := k'x (sz := Em.sz) (List.mem_of_getElem? hv)
  have e : atB (fun k : Em => k.may d) a i = v.may d := by unfold atB; rw [hv]
  rw [e]
  exact rMayEm_calls B v x d (by omega) r1 hd1 hd2)
 rw [hR.1, ← atB_all] at h
 exact h
set_option maxHeartbeats 8000000 in
theorem rEm_calls (x : Em) (xa : D) (d : Int) (hbig : x.sz < big) (hwf : x.wf) (hm : x.may d = true) (hx : x.R xa) : k'0 (cx B) 438 [.d xa] [] (sT x.mar) [] := by
 have hlen := Em.mar_len x
 obtain ⟨z_attrs, l_attrs, rfl, r_attrs⟩ := hx
 unfold Em.may at hm
 simp only [Bool.and_eq_true, decide_eq_true_eq] at hm
 obtain ⟨⟨⟨hd, m_kn⟩, m_attrs⟩, hu⟩ := hm
 obtain ⟨w_attrs, w_time, w_n⟩ := hwf
 have hlen : x.mar.length < big := by omega
 unfold Em.sz at hbig
 unfold Em.mar Em.hb at hlen ⊢
 have c0 : k'0 (cx B) 399 [iT 2, uT x.time] [] (sT (fxV 2 x.time)) [] := k'e B 2 x.time (by omega) (by omega) w_time
 have c1 : k'0 (cx B) 400 [.d (.bool (x.kind == 1)), sT (e8V 3 x.n)] [] (sT (opV 3 (x.kind == 1) x.n)) [] := if1_calls B _ _
 have e1 := k'1y B 3 x.n (by omega) (by omega) w_n
 have c2 : k'0 (cx B) 43 [iT 4, sT x.span] [] (sT (txV 4 x.span)) [] := k'j B 4 x.span (by omega) (by omega) (by omega)
 have c3 : k'0 (cx B) 43 [iT 5, sT x.trace] [] (sT (txV 5 x.trace)) [] := k'j B 5 x.trace (by omega) (by omega) (by omega)
 have c4 : k'0 (cx B) 400 [.d (.bool (x.kind == 2)), sT (e8V 6 x.n)] [] (sT (opV 6 (x.kind == 2) x.n)) [] := if1_calls B _ _
 have e4 := k'1y B 6 x.n (by omega) (by omega) w_n
 have c5 : k'0 (cx B) 150 [iT 7, .d (.sl z_attrs l_attrs)] [] (sT (psV 7 (Kv.mars x.attrs))) [] := k'1q B 7 (by omega) (by omega) x.attrs z_attrs l_attrs (d - 1) (by omega) w_attrs m_attrs r_attrs
 generalize fxV 2 x.time = o0 at *
 generalize opV 3 (x.kind == 1) x.n = o1 at *
 generalize txV 4 x.span = o2 at *
 generalize txV 5 x.trace = o3 at *
 generalize opV 6 (x.kind == 2) x.n = o4 at *
 generalize psV 7 (Kv.mars x.attrs) = o5 at *
 unfold big at hlen
 simp only [List.length_append] at hlen
 refine l_bw Tryz.func438 0 [] ?_
 refine x_cw [] (c0) rfl rfl rfl ?_
 refine x_cw [] (e1) rfl rfl rfl ?_
 refine x_cw [] (c1) rfl rfl rfl ?_
 refine k'12 (.addStr rfl rfl rfl (by (try simp only [List.length_append]); omega)) rfl rfl rfl ?_
 refine Y ?_
 refine x_cw [] (c2) rfl rfl rfl ?_
 refine k'12 (.addStr rfl rfl rfl (by (try simp only [List.length_append]); omega)) rfl rfl rfl ?_
 refine Y ?_
 refine x_cw [] (c3) rfl rfl rfl ?_
 refine k'12 (.addStr rfl rfl rfl (by (try simp only [List.length_append]); omega)) rfl rfl rfl ?_
 refine Y ?_
 refine x_cw [] (e4) rfl rfl rfl ?_
 refine x_cw [] (c4) rfl rfl rfl ?_
 refine k'12 (.addStr rfl rfl rfl (by (try simp only [List.length_append]); omega)) rfl rfl rfl ?_
 refine Y ?_
 refine x_cw [] (c5) rfl rfl rfl ?_
 refine k'12 (.addStr rfl rfl rfl (by (try simp only [List.length_append]); omega)) rfl rfl rfl ?_
 refine Y ?_
 refine k'12 (.addStr rfl rfl rfl (by (try simp only [List.length_append]); omega)) rfl rfl rfl ?_
 exact Z
theorem PutEms_L (n : Nat) (h1 : 1 ≤ n) (h2 : n ≤ 536870911) (z : Bool) (xs : List D) (ms : List (List UInt8)) (hl : ms.length = xs.length) (hx : ∀ x ∈ xs, EmSh x) (hb : (psV n ms).length < big) (hf : ∀ (i : Nat) x s, xs[i]? = some x → ms[i]? = some s → k'0 (cx B) 438 [.d x] [] (sT s) []) :
  k'0 (cx B) 401 [iT n, .d (.sl z xs)] [] (sT (psV n ms)) [] := by
 have hxl := psV_num n ms
 unfold big at hb
 refine l_bw Tryz.func401 0 [] ?_
 refine k'8 (fun i : Nat => xs.length - i) (fun i => [(0, iT n), (1, .d (.sl z xs)), (5, sT (psV n (ms.take i))), (6, iT i)]) (fun _ => []) (fun i => i ≤ xs.length) 0 (by omega) ⟨rfl, rfl, rfl, rfl, trivial⟩ rfl 0 rfl (fun _ => rfl) (fun _ => rfl) (fun _ => rfl) ?_
 intro i i1
 refine Y ?_
 by_cases hlt : i < xs.length
 ·rw [show decide ((i : Int) < xs.length) = true from decide_eq_true (by omega)]
  obtain ⟨x, hxi⟩ : ∃ x, xs[i]? = some x := ⟨_, List.getElem?_eq_getElem hlt⟩
  obtain ⟨s, hsi⟩ : ∃ s, ms[i]? = some s := ⟨_, List.getElem?_eq_getElem (by omega)⟩
  have hc := hf i x s hxi hsi
  obtain ⟨e1, e2, e3⟩ := k'3w n hsi
  obtain ⟨a0, a1, a2, a3, a4, a5, a6, a7, rfl⟩ := hx x (List.mem_of_getElem? hxi)
  have hB := k'7 B n s h1 h2 (by unfold big; omega)
  refine Y ?_
  refine k'1 (.indexAddr (k := .i64) (n := i) (es := xs) rfl rfl rfl rfl (.inl ⟨_, rfl⟩) rfl (by omega) (by simpa using hxi) rfl (by decide)) rfl rfl ?_
  refine Y ?_
  refine l_cw [] (hc) rfl rfl rfl ?_
  refine l_cw [] (hB) rfl rfl rfl ?_
  refine k'1 (.addStr (a := psV n (ms.take i)) (b := tagV n 2 ++ (putV s.length ++ s)) rfl rfl rfl (by omega)) rfl rfl ?_
  rw [e1]
  refine Y ?_
  rw [wS i (by omega)]
  exact ⟨i + 1, by omega, by omega, ⟨rfl, rfl, rfl, rfl, trivial⟩, rfl, k'z rfl⟩
 ·rw [show decide ((i : Int) < xs.length) = false from decide_eq_false (by omega), List.take_of_length_le (by omega)]
  exact Z
theorem k'3q {a : List Em} {xs : List D} (n : Nat) (h1 : 1 ≤ n) (h2 : n ≤ 536870911) (z : Bool) (d : Int) (hb : (a.map Em.sz).sum < big) (hw : ∀ k ∈ a, k.wf) (hm : (a.all fun k => k.may d) = true) (hR : RsOf Em.R a xs) : k'0 (cx B) 401 [iT n, .d (.sl z xs)] [] (sT (psV n (a.map Em.mar))) [] := by
 have hpl := k'1v (sz := Em.sz) (mar := Em.mar) n a fun y _ => Em.mar_len y
 refine PutEms_L B n h1 h2 z xs (a.map Em.mar) (by rw [List.length_map, hR.1]) (Em.Rs_sh hR) (by omega) fun i x s hx hs => ?_
 obtain ⟨v, hv, r⟩ := hR.at hx
 rw [List.getElem?_map, hv] at hs
 injection hs with hs; subst hs
 have hmem := List.mem_of_getElem? hv
 have := k'x (sz := Em.sz) hmem
 exact rEm_calls B v x d (by omega) (hw v hmem) (List.all_eq_true.1 hm v hmem) r
end
section
theorem tabQu_calls : k'0 (cx B) 273 [] [] (.d (.sl false ([9, 17].map iD))) [] := by
 refine l_bw Tryz.func273 0 [] ?_
 (try refine k'1t rfl ?_)
 refine k'1 (.buildSlice (es := [9, 17].map iD) rfl rfl rfl rfl rfl rfl (by intro x hx; simp [iD] at hx; rcases hx with rfl | rfl <;> rfl) (by decide) (by decide) (by decide)) rfl rfl ?_
 exact Z
theorem tbG_big {n k : Nat} (hn : 3 ≤ n) : tbG n k = false := by
 unfold tbG
 simp
 (repeat' split) <;> omega
theorem tk_Qu (n k : Nat) (hk : k < 8) : tkB [9, 17] n k = tbG n k := by
 by_cases hn : n < 3
 ·exact (by decide : ∀ n < 3, ∀ k < 8, tkB [9, 17] n k = tbG n k) n hn k hk
 ·rw [show tkB [9, 17] n k = false by unfold tkB; simp; omega, tbG_big (by omega)]
theorem tabSu_calls : k'0 (cx B) 274 [] [] (.d (.sl false ([17, 25, 33, 41, 50, 58, 64].map iD))) [] := by
 refine l_bw Tryz.func274 0 [] ?_
 (try refine k'1t rfl ?_)
 refine k'1 (.buildSlice (es := [17, 25, 33, 41, 50, 58, 64].map iD) rfl rfl rfl rfl rfl rfl (by intro x hx; simp [iD] at hx; rcases hx with rfl | rfl | rfl | rfl | rfl | rfl | rfl <;> rfl) (by decide) (by decide) (by decide)) rfl rfl ?_
 exact Z
theorem tbS_big {n k : Nat} (hn : 9 ≤ n) : tbS n k = false := by
 unfold tbS
 simp
 (repeat' split) <;> omega
theorem tk_Su (n k : Nat) (hk : k < 8) : tkB [17, 25, 33, 41, 50, 58, 64] n k = tbS n k := by
 by_cases hn : n < 9
 ·exact (by decide : ∀ n < 9, ∀ k < 8, tkB [17, 25, 33, 41, 50, 58, 64] n k = tbS n k) n hn k hk
 ·rw [show tkB [17, 25, 33, 41, 50, 58, 64] n k = false by unfold tkB; simp; omega, tbS_big (by omega)]
theorem qs_take {d : Int} {l : List Qu} {i : Nat} {v : Qu} (h : l[i]? = some v) (h2 : ((l.take i).all fun k => k.may d) = true) : ((l.take (i + 1)).all fun k => k.may d) = v.may d := by
 rw [List.take_add_one, h, List.all_append, h2]; simp
set_option maxHeartbeats 4000000 in
theorem rMaySu_calls (x : Su) (xa : D) (d : Int) (hbig : x.sz < big) (hx : x.R xa) (hd1 : -9223372036854775808 ≤ d) (hd2 : d < 9223372036854775808) : k'0 (cx B) 207 [.d xa, .d (.int .i64 d)] [] (.d (.bool (x.may d))) [] := by
 obtain ⟨z_attrs, l_attrs, z_qs, l_qs, rfl, r_attrs, r_qs⟩ := hx
 unfold Su.sz big at hbig
 have c_u := k'c B [17, 25, 33, 41, 50, 58, 64] (by decide) (by decide) x.u d (by unfold big; omega) hd1 hd2
 rw [k'47 tk_Su] at c_u
 have c_t := tabSu_calls B
 have c_q := tabQu_calls B
 have q_attrs : 0 ≤ d → k'0 (cx B) 148 [.d (.sl z_attrs l_attrs), .d (.int .i64 (d - 1))] [] (.d (.bool (x.attrs.all fun k => k.may (d - 1)))) [] := fun h => k'15 B x.attrs z_attrs l_attrs (d - 1) (by unfold big; omega) r_attrs (by omega) (by omega)
 have hw1 : -9223372036854775808 ≤ IntKind.i64.wrap (d - 1) ∧ IntKind.i64.wrap (d - 1) < 9223372036854775808 := by rw [IntKind.wrap_i64]; omega
 have hwd : 0 ≤ d → IntKind.i64.wrap (d - 1) = d - 1 := fun h => k'10 (by omega) (by omega)
 generalize he : IntKind.i64.wrap (d - 1) = e at *
 have hneg : d < 0 → x.may d = false := fun h => by unfold Su.may; rw [decide_eq_false (by omega)]; simp
 have hqn : ∀ (v : Qu), v ∈ x.qs → v.may e = false → x.may d = false := fun v hv h => by
  rcases Int.lt_or_le d 0 with h0 | h0
  ·exact hneg h0
  ·have := hwd h0
   subst this
   unfold Su.may
   rw [show (x.qs.all fun k => k.may (d - 1)) = false from by
    rw [Bool.eq_false_iff]; intro ha; rw [List.all_eq_true.1 ha v hv] at h; simp at h]
   simp
 have hfin : 0 ≤ d → (x.qs.all fun k => k.may e) = true → x.may d = ((x.attrs.all fun k => k.may (d - 1)) && k'1a tbS x.u d) := fun h0 h => by
  have := hwd h0
  subst this
  unfold Su.may
  rw [decide_eq_true h0, h]; simp
 generalize x.may d = R at *
 have hla := k'22 (sz := Qu.sz) (fun x => by unfold Qu.sz; omega) x.qs
 have hl := r_qs.1
 refine l_bw Tryz.func207 0 [] ?_
 refine k'8 (fun i : Nat => l_qs.length - i) (fun i => [(1, .d (.int .i64 d)), (2, .ptr 0 0), (5, iT i)]) (fun _ => [.mu [.d (.sl z_attrs l_attrs), .d (.int .u64 x.start), .d (.int .u64 x.time), .d (.int .u64 x.count), .d (.int .u64 x.sum), .d (.sl z_qs l_qs), .d (.int .u32 x.flags), .d (.str x.u)]]) (fun i => i ≤ l_qs.length ∧ ((x.qs.take i).all fun k => k.may e) = true) 0 ⟨by omega, rfl⟩ ⟨rfl, rfl, rfl, trivial⟩ rfl 1 rfl (fun _ => rfl) (fun _ => rfl) (fun _ => rfl) ?_
 rintro i ⟨i1, i2⟩
 refine Y ?_
 refine k'13 rfl (fun hd => ?_) (fun hd => ?_)
 ·have hlt : i < l_qs.length := by have := of_decide_eq_true hd; omega
  obtain ⟨a', hxi⟩ : ∃ a, l_qs[i]? = some a := ⟨_, List.getElem?_eq_getElem hlt⟩
  obtain ⟨v, hv, rv⟩ := r_qs.at hxi
  have hm := k'x (sz := Qu.sz) (List.mem_of_getElem? hv)
  have ht := qs_take hv i2
  have hvu : v.u.length ≤ v.sz := by unfold Qu.sz; omega
  have hc := k'c B [9, 17] (by decide) (by decide) v.u e (by unfold big; omega) hw1.1 hw1.2
  rw [k'47 tk_Qu, show (decide (0 ≤ e) && k'1a tbG v.u e) = v.may e from rfl] at hc
  obtain rfl : a' = _ := rv
  refine Y ?_
  refine k'12 (.indexAddr (k := .i64) (n := i) (es := l_qs) rfl rfl rfl rfl (.inl ⟨_, rfl⟩) rfl (by omega) (by simpa using hxi) rfl (by decide)) rfl rfl rfl ?_
  refine Y ?_
  refine x_cw [] (c_q) rfl rfl rfl ?_
  rw [he]
  refine x_cw [] (hc) rfl rfl rfl ?_
  cases hr : v.may e
  ·rw [hqn v (List.mem_of_getElem? hv) hr]
   exact Z
  refine Y ?_
  rw [wS i (by omega)]
  exact ⟨i + 1, by omega, ⟨by omega, by rw [ht, hr]⟩, ⟨rfl, rfl, rfl, trivial⟩, rfl, k'z rfl⟩
 have hge : i = x.qs.length := by have := of_decide_eq_false hd; omega
 subst hge
 rw [List.take_length] at i2
 refine Y ?_
 refine xw ?_
 cases hd : decide (d ≥ 0)
 ·rw [hneg (by have := of_decide_eq_false hd; omega)]
  refine xw ?_
  exact Z
 have hd0 : 0 ≤ d := of_decide_eq_true hd
 rw [hfin hd0 i2]
 replace q_attrs := q_attrs hd0
 rw [decide_eq_true hd0, Bool.true_and] at c_u
 refine xw ?_
 refine Y ?_
 rw [k'10 (by omega) (by omega)]
 refine k'3 [] (q_attrs) rfl rfl rfl ?_
 refine xw ?_
 refine Y ?_
 cases h_attrs : (x.attrs.all fun k => k.may (d - 1))
 ·refine xw ?_
  exact Z
 refine xw ?_
 refine Y ?_
 refine k'3 [] (c_t) rfl rfl rfl ?_
 refine xw ?_
 refine Y ?_
 refine k'3 [] (c_u) rfl rfl rfl ?_
 refine xw ?_
 exact Z
theorem sum_tk {α : Type} (f : α → Nat) {l : List α} {i : Nat} {x : α} (h : l[i]? = some x) : ((l.take (i + 1)).map f).sum = ((l.take i).map f).sum + f x ∧ ((l.take i).map f).sum + f x ≤ (l.map f).sum := by
 have e : ((l.take (i + 1)).map f).sum = ((l.take i).map f).sum + f x := by rw [List.take_add_one, h]; simp
 refine ⟨e, ?_⟩
 rw [← e]
 have : l.map f = (l.take (i + 1)).map f ++ (l.drop (i + 1)).map f := by rw [← List.map_append, List.take_append_drop]
 rw [this, List.sum_append]
 omega
theorem ps_tk {α : Type} (f : α → List UInt8) (n : Nat) {l : List α} {i : Nat} {x : α} (h : l[i]? = some x) : psV n ((l.take (i + 1)).map f) = psV n ((l.take i).map f) ++ paV n (f x) := by
 rw [List.take_add_one, h]
 unfold psV
 simp
set_option maxHeartbeats 4000000 in
theorem rSu_calls (x : Su) (xa : D) (d : Int) (hbig : x.sz < big) (hwf : x.wf) (hm : x.may d = true) (hx : x.R xa) : k'0 (cx B) 325 [.d xa] [] (sT x.mar) [] := by
 have hlen := Su.mar_len x
 obtain ⟨z_attrs, l_attrs, z_qs, l_qs, rfl, r_attrs, r_qs⟩ := hx
 unfold Su.may at hm
 simp only [Bool.and_eq_true, decide_eq_true_eq] at hm
 obtain ⟨⟨⟨hd, m_qs⟩, m_attrs⟩, hu⟩ := hm
 obtain ⟨w_attrs, w_start, w_time, w_count, w_sum, w_qs, w_flags⟩ := hwf
 have hlen : x.mar.length < big := by omega
 unfold Su.sz at hbig
 unfold Su.mar Su.hb at hlen ⊢
 have c0 : k'0 (cx B) 399 [iT 2, uT x.start] [] (sT (fxV 2 x.start)) [] := k'e B 2 x.start (by omega) (by omega) w_start
 have c1 : k'0 (cx B) 399 [iT 3, uT x.time] [] (sT (fxV 3 x.time)) [] := k'e B 3 x.time (by omega) (by omega) w_time
 have c2 : k'0 (cx B) 399 [iT 4, uT x.count] [] (sT (fxV 4 x.count)) [] := k'e B 4 x.count (by omega) (by omega) w_count
 have c3 : k'0 (cx B) 399 [iT 5, uT x.sum] [] (sT (fxV 5 x.sum)) [] := k'e B 5 x.sum (by omega) (by omega) w_sum
 have c5 : k'0 (cx B) 150 [iT 7, .d (.sl z_attrs l_attrs)] [] (sT (psV 7 (Kv.mars x.attrs))) [] := k'1q B 7 (by omega) (by omega) x.attrs z_attrs l_attrs (d - 1) (by omega) w_attrs m_attrs r_attrs
 have c6 : k'0 (cx B) 42 [iT 8, uT x.flags] [] (sT (vrV 8 x.flags)) [] := k'18 B 8 x.flags (by omega) (by omega) (by omega)
 generalize fxV 2 x.start = o0 at *
 generalize fxV 3 x.time = o1 at *
 generalize fxV 4 x.count = o2 at *
 generalize fxV 5 x.sum = o3 at *
 generalize psV 7 (Kv.mars x.attrs) = o5 at *
 generalize vrV 8 x.flags = o6 at *
 have hla := k'22 (sz := Qu.sz) (fun x => by unfold Qu.sz; omega) x.qs
 have hl := r_qs.1
 unfold big at hbig
 refine l_bw Tryz.func325 0 [] ?_
 refine k'8 (fun i : Nat => l_qs.length - i) (fun i => [(1, .ptr 0 0), (3, sT (psV 6 ((x.qs.take i).map Qu.mar))), (4, iT i)]) (fun _ => [.mu [.d (.sl z_attrs l_attrs), .d (.int .u64 x.start), .d (.int .u64 x.time), .d (.int .u64 x.count), .d (.int .u64 x.sum), .d (.sl z_qs l_qs), .d (.int .u32 x.flags), .d (.str x.u)]]) (fun i => i ≤ l_qs.length) 0 (by omega) ⟨rfl, rfl, rfl, trivial⟩ rfl 1 rfl (fun _ => rfl) (fun _ => rfl) (fun _ => rfl) ?_
 intro i i1
 refine Y ?_
 refine k'13 rfl (fun hc => ?_) (fun hc => ?_)
 ·have hlt : i < l_qs.length := by have := of_decide_eq_true hc; omega
  obtain ⟨a', hxi⟩ : ∃ a, l_qs[i]? = some a := ⟨_, List.getElem?_eq_getElem hlt⟩
  obtain ⟨v, hv, rv⟩ := r_qs.at hxi
  obtain ⟨e1, e2⟩ := sum_tk Qu.sz hv
  have e3 := ps_tk Qu.mar 6 hv
  have e4 := k'1v 6 (x.qs.take i) fun y _ => Qu.mar_len y
  have e5 := Qu.mar_len v
  have e6 := k'2b 6 v.mar
  have w_v := w_qs v (List.mem_of_getElem? hv)
  have p1 : k'0 (cx B) 399 [iT 1, uT v.q] [] (sT (fxV 1 v.q)) [] := k'e B 1 v.q (by omega) (by omega) w_v.1
  have p2 : k'0 (cx B) 399 [iT 2, uT v.v] [] (sT (fxV 2 v.v)) [] := k'e B 2 v.v (by omega) (by omega) w_v.2
  have p3 : k'0 (cx B) 41 [iT 6, sT v.mar] [] (sT (paV 6 v.mar)) [] := k'7 B 6 v.mar (by omega) (by omega) (by unfold big; omega)
  have em : v.mar = fxV 1 v.q ++ fxV 2 v.v ++ v.u := rfl
  have hlm : (fxV 1 v.q ++ fxV 2 v.v ++ v.u).length < 34359738368 := by rw [← em]; omega
  rw [em] at p3
  generalize fxV 1 v.q = q1 at *
  generalize fxV 2 v.v = q2 at *
  generalize psV 6 ((x.qs.take i).map Qu.mar) = acc at *
  simp only [List.length_append] at hlm
  rw [em] at e3 e6
  generalize paV 6 (q1 ++ q2 ++ v.u) = pa at *
  obtain rfl : a' = _ := rv
  refine Y ?_
  refine k'1 (.indexAddr (k := .i64) (n := i) (es := l_qs) rfl rfl rfl rfl (.inl ⟨_, rfl⟩) rfl (by omega) (by simpa using hxi) rfl (by decide)) rfl rfl ?_
  refine Y ?_
  refine x_cw [] (p1) rfl rfl rfl ?_
  refine x_cw [] (p2) rfl rfl rfl ?_
  refine k'12 (.addStr rfl rfl rfl (by omega)) rfl rfl rfl ?_
  refine Y ?_
  refine k'12 (.addStr rfl rfl rfl (by (try simp only [List.length_append]); omega)) rfl rfl rfl ?_
  refine Y ?_
  refine x_cw [] (p3) rfl rfl rfl ?_
  refine k'12 (.addStr rfl rfl rfl (by rw [em] at e5; simp only [List.length_append] at e6 e5; omega)) rfl rfl rfl ?_
  refine Y ?_
  rw [wS i (by omega)]
  exact ⟨i + 1, by omega, by omega, ⟨rfl, by rw [e3]; rfl, rfl, trivial⟩, rfl, k'z rfl⟩
 have hge : i = x.qs.length := by have := of_decide_eq_false hc; omega
 subst hge
 rw [List.take_length]
 generalize psV 6 (x.qs.map Qu.mar) = o4 at *
 unfold big at hlen
 simp only [List.length_append] at hlen
 refine Y ?_
 refine x_cw [] (c0) rfl rfl rfl ?_
 refine x_cw [] (c1) rfl rfl rfl ?_
 refine k'12 (.addStr rfl rfl rfl (by (try simp only [List.length_append]); omega)) rfl rfl rfl ?_
 refine Y ?_
 refine x_cw [] (c2) rfl rfl rfl ?_
 refine k'12 (.addStr rfl rfl rfl (by (try simp only [List.length_append]); omega)) rfl rfl rfl ?_
 refine Y ?_
 refine x_cw [] (c3) rfl rfl rfl ?_
 refine k'12 (.addStr rfl rfl rfl (by (try simp only [List.length_append]); omega)) rfl rfl rfl ?_
 refine Y ?_
 refine k'12 (.addStr rfl rfl rfl (by (try simp only [List.length_append]); omega)) rfl rfl rfl ?_
 refine Y ?_
 refine x_cw [] (c5) rfl rfl rfl ?_
 refine k'12 (.addStr rfl rfl rfl (by (try simp only [List.length_append]); omega)) rfl rfl rfl ?_
 refine Y ?_
 rw [show IntKind.u64.wrap (x.flags : Int) = (x.flags : Int) by rw [IntKind.wrap_u64]; omega]
 refine x_cw [] (c6) rfl rfl rfl ?_
 refine k'12 (.addStr rfl rfl rfl (by (try simp only [List.length_append]); omega)) rfl rfl rfl ?_
 refine Y ?_
 refine k'12 (.addStr rfl rfl rfl (by (try simp only [List.length_append]); omega)) rfl rfl rfl ?_
 exact Z
end
