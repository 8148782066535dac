/- Batches: the reference tells if they may be. -/
import Derived.Test.YtcfkbpddmdfbaaaGreatDoorMQ
import Derived.Test.YtcfkbpddmdfbaaaGreatDoorRV
set_option linter.unusedSimpArgs false
set_option linter.unusedVariables false
set_option maxRecDepth 100000
namespace Go.Proofs.YtcfkbpddmdfbaaaGreatDoor
open Go Go.Abs
theorem tk_bC (n k : Nat) (hk : k < 8) : tkB [10, 18, 26, 32] n k = tbC n k := by
 by_cases hn : n < 6
 ·exact (by decide : ∀ n < 6, ∀ k < 8, tkB [10, 18, 26, 32] n k = tbC n k) n hn k hk
 ·rw [show tkB [10, 18, 26, 32] n k = false by unfold tkB; simp; omega]
  unfold tbC
  simp
  try (repeat' split)
  all_goals omega
theorem tk_bD (n k : Nat) (hk : k < 8) : tkB [10, 16] n k = tbD n k := by
 by_cases hn : n < 4
 ·exact (by decide : ∀ n < 4, ∀ k < 8, tkB [10, 16] n k = tbD n k) n hn k hk
 ·rw [show tkB [10, 16] n k = false by unfold tkB; simp; omega]
  unfold tbD
  simp
  try (repeat' split)
  all_goals omega
theorem tk_b3 (n k : Nat) (hk : k < 8) : tkB [10, 18, 26] n k = tb3 n k := by
 by_cases hn : n < 5
 ·exact (by decide : ∀ n < 5, ∀ k < 8, tkB [10, 18, 26] n k = tb3 n k) n hn k hk
 ·rw [show tkB [10, 18, 26] n k = false by unfold tkB; simp; omega]
  unfold tb3
  simp
  try (repeat' split)
  all_goals omega
theorem tk_b1 (n k : Nat) (hk : k < 8) : tkB [10] n k = tb1 n k := by
 by_cases hn : n < 3
 ·exact (by decide : ∀ n < 3, ∀ k < 8, tkB [10] n k = tb1 n k) n hn k hk
 ·rw [show tkB [10] n k = false by unfold tkB; simp; omega]
  unfold tb1
  simp
  try (repeat' split)
  all_goals omega
theorem tk_bA (n k : Nat) (hk : k < 8) : tkB [8, 18] n k = tbAns n k := by
 by_cases hn : n < 4
 ·exact (by decide : ∀ n < 4, ∀ k < 8, tkB [8, 18] n k = tbAns n k) n hn k hk
 ·rw [show tkB [8, 18] n k = false by unfold tkB; simp; omega]
  unfold tbAns
  simp
  try (repeat' split)
  all_goals omega
variable (B : Fr)
theorem tabbC_calls : k'0 (cx B) 201 [] [] (.d (.sl false ([10, 18, 26, 32].map iD))) [] := by
 refine l_bw Tryz.func201 0 [] ?_
 (try refine k'1t rfl ?_)
 refine k'1 (.buildSlice (es := [10, 18, 26, 32].map iD) rfl rfl rfl rfl rfl rfl (by intro x hx; simp [iD] at hx; rcases hx with rfl | rfl | rfl | rfl <;> rfl) (by decide) (by decide) (by decide)) rfl rfl ?_
 exact Z
theorem unkbC_calls (s : List UInt8) (d : Int) (hl : s.length < big) (hd1 : -9223372036854775808 ≤ d) (hd2 : d < 9223372036854775808) : k'0 (cx B) 50 [sT s, .d (.int .i64 d), .d (.sl false ([10, 18, 26, 32].map iD))] [] (.d (.bool (decide (0 ≤ d) && k'1a tbC s d))) [] := by
 have h := k'c B [10, 18, 26, 32] (by decide) (by decide) s d hl hd1 hd2
 rw [k'47 tk_bC] at h; exact h
theorem tabbD_calls : k'0 (cx B) 149 [] [] (.d (.sl false ([10, 16].map iD))) [] := by
 refine l_bw Tryz.func149 0 [] ?_
 (try refine k'1t rfl ?_)
 refine k'1 (.buildSlice (es := [10, 16].map iD) rfl rfl rfl rfl rfl rfl (by intro x hx; simp [iD] at hx; rcases hx with rfl | rfl <;> rfl) (by decide) (by decide) (by decide)) rfl rfl ?_
 exact Z
theorem unkbD_calls (s : List UInt8) (d : Int) (hl : s.length < big) (hd1 : -9223372036854775808 ≤ d) (hd2 : d < 9223372036854775808) : k'0 (cx B) 50 [sT s, .d (.int .i64 d), .d (.sl false ([10, 16].map iD))] [] (.d (.bool (decide (0 ≤ d) && k'1a tbD s d))) [] := by
 have h := k'c B [10, 16] (by decide) (by decide) s d hl hd1 hd2
 rw [k'47 tk_bD] at h; exact h
theorem tabb3_calls : k'0 (cx B) 101 [] [] (.d (.sl false ([10, 18, 26].map iD))) [] := by
 refine l_bw Tryz.func101 0 [] ?_
 (try refine k'1t rfl ?_)
 refine k'1 (.buildSlice (es := [10, 18, 26].map iD) rfl rfl rfl rfl rfl rfl (by intro x hx; simp [iD] at hx; rcases hx with rfl | rfl | rfl <;> rfl) (by decide) (by decide) (by decide)) rfl rfl ?_
 exact Z
theorem unkb3_calls (s : List UInt8) (d : Int) (hl : s.length < big) (hd1 : -9223372036854775808 ≤ d) (hd2 : d < 9223372036854775808) : k'0 (cx B) 50 [sT s, .d (.int .i64 d), .d (.sl false ([10, 18, 26].map iD))] [] (.d (.bool (decide (0 ≤ d) && k'1a tb3 s d))) [] := by
 have h := k'c B [10, 18, 26] (by decide) (by decide) s d hl hd1 hd2
 rw [k'47 tk_b3] at h; exact h
theorem tabb1_calls : k'0 (cx B) 51 [] [] (.d (.sl false ([10].map iD))) [] := by
 refine l_bw Tryz.func51 0 [] ?_
 (try refine k'1t rfl ?_)
 refine k'1 (.buildSlice (es := [10].map iD) rfl rfl rfl rfl rfl rfl (by intro x hx; simp [iD] at hx; subst hx; rfl) (by decide) (by decide) (by decide)) rfl rfl ?_
 exact Z
theorem unkb1_calls (s : List UInt8) (d : Int) (hl : s.length < big) (hd1 : -9223372036854775808 ≤ d) (hd2 : d < 9223372036854775808) : k'0 (cx B) 50 [sT s, .d (.int .i64 d), .d (.sl false ([10].map iD))] [] (.d (.bool (decide (0 ≤ d) && k'1a tb1 s d))) [] := by
 have h := k'c B [10] (by decide) (by decide) s d hl hd1 hd2
 rw [k'47 tk_b1] at h; exact h
theorem tabbA_calls : k'0 (cx B) 55 [] [] (.d (.sl false ([8, 18].map iD))) [] := by
 refine l_bw Tryz.func55 0 [] ?_
 (try refine k'1t rfl ?_)
 refine k'1 (.buildSlice (es := [8, 18].map iD) rfl rfl rfl rfl rfl rfl (by intro x hx; simp [iD] at hx; rcases hx with rfl | rfl <;> rfl) (by decide) (by decide) (by decide)) rfl rfl ?_
 exact Z
theorem unkbA_calls (s : List UInt8) (d : Int) (hl : s.length < big) (hd1 : -9223372036854775808 ≤ d) (hd2 : d < 9223372036854775808) : k'0 (cx B) 50 [sT s, .d (.int .i64 d), .d (.sl false ([8, 18].map iD))] [] (.d (.bool (decide (0 ≤ d) && k'1a tbAns s d))) [] := by
 have h := k'c B [8, 18] (by decide) (by decide) s d hl hd1 hd2
 rw [k'47 tk_bA] at h; exact h
def Sc.fixd (x : Sc) : Sc := { x with attrs := Kv.fixes x.attrs }
def Sc.rmar (x : Sc) : List UInt8 := x.fixd.mar
theorem Sc.rmar_len (x : Sc) : x.rmar.length + 20 ≤ x.sz := by
 have h := Sc.mar_len x.fixd
 unfold Sc.rmar
 unfold Sc.sz Sc.fixd at *
 rw [Kv.fixes_sz] at h
 exact h
theorem Sc.rmar_may (x : Sc) (d : Int) (h : x.may d = true) : x.rmar = x.mar := by
 unfold Sc.may at h
 simp only [Bool.and_eq_true] at h
 unfold Sc.rmar Sc.fixd
 rw [Kv.fixes_may x.attrs (d - 1) (by rw [Kv.mays_all]; exact h.1.2)]
theorem rSc_calls (x : Sc) (xa : D) (hbig : x.sz < big) (hwf : x.wf) (hx : x.R xa) : k'0 (cx B) 152 [.d xa] [] (sT x.rmar) [] := by
 have hlen := x.rmar_len
 have hlen : x.rmar.length < big := by omega
 obtain ⟨z, l, rfl, r_a⟩ := hx
 obtain ⟨w_a, w_d⟩ := hwf
 unfold Sc.sz at hbig
 have c0 : k'0 (cx B) 43 [iT 1, sT x.name] [] (sT (txV 1 x.name)) [] := k'j B 1 x.name (by omega) (by omega) (by omega)
 have c1 : k'0 (cx B) 43 [iT 2, sT x.version] [] (sT (txV 2 x.version)) [] := k'j B 2 x.version (by omega) (by omega) (by omega)
 have c2 := k'4o B 3 (by omega) (by omega) x.attrs z l (by omega) w_a r_a
 have c3 := k'18 B 4 x.dropped (by omega) (by omega) (by omega)
 have e : x.rmar = txV 1 x.name ++ txV 2 x.version ++ psV 3 (Kv.mars (Kv.fixes x.attrs)) ++ vrV 4 x.dropped ++ x.u := rfl
 rw [e] at hlen ⊢
 clear e
 generalize txV 1 x.name = o0 at *
 generalize txV 2 x.version = o1 at *
 generalize psV 3 (Kv.mars (Kv.fixes x.attrs)) = o2 at *
 generalize vrV 4 x.dropped = o3 at *
 unfold big at hlen
 simp only [List.length_append] at hlen
 refine l_bw Tryz.func152 0 [] ?_
 refine x_cw [] (c0) rfl rfl rfl ?_
 refine x_cw [] (c1) rfl rfl rfl ?_
 refine k'12 (.addStr rfl rfl rfl (by (try simp only [List.length_append]); omega)) rfl rfl rfl ?_
 refine Y ?_
 refine x_cw [] (c2) rfl rfl rfl ?_
 refine k'12 (.addStr rfl rfl rfl (by (try simp only [List.length_append]); omega)) rfl rfl rfl ?_
 refine Y ?_
 rw [show IntKind.u64.wrap (x.dropped : Int) = (x.dropped : Int) from wrapN (by omega)]
 refine x_cw [] (c3) rfl rfl rfl ?_
 refine k'12 (.addStr rfl rfl rfl (by (try simp only [List.length_append]); omega)) rfl rfl rfl ?_
 refine Y ?_
 refine k'12 (.addStr rfl rfl rfl (by (try simp only [List.length_append]); omega)) rfl rfl rfl ?_
 exact Z
set_option maxHeartbeats 4000000 in
theorem rMaySc_calls (x : Sc) (xa : D) (d : Int) (hbig : x.sz < big) (hx : x.R xa) (hd1 : -1000 ≤ d) (hd2 : d < 9223372036854775808) : k'0 (cx B) 151 [.d xa, .d (.int .i64 d)] [] (.d (.bool (x.may d))) [] := by
 obtain ⟨z, l, rfl, r_a⟩ := hx
 unfold Sc.sz at hbig
 have c_name := k'17 B x.name (by omega)
 have c_version := k'17 B x.version (by omega)
 have c_a := k'15 B x.attrs z l (d - 1) (by omega) r_a (by omega) (by omega)
 have c_t := tabbC_calls B
 have c_u := unkbC_calls B x.u d (by omega) (by omega) hd2
 have hR : x.may d = (decide (d ≥ 0) && (txt x.name && (txt x.version && ((x.attrs.all fun k => k.may (d - 1)) && (k'1a tbC x.u d))))) := by
  unfold Sc.may
  simp only [Bool.and_assoc, ge_iff_le]
 rw [hR]
 clear hR
 refine l_bw Tryz.func151 0 [] ?_
 refine xw ?_
 cases h_0 : decide (d ≥ 0)
 ·refine xw ?_
  exact Z
 have hd0 : 0 ≤ d := of_decide_eq_true h_0
 rw [decide_eq_true hd0, Bool.true_and] at c_u
 refine xw ?_
 refine Y ?_
 refine k'3 [] (c_name) rfl rfl rfl ?_
 refine xw ?_
 refine Y ?_
 cases h_1 : txt x.name
 ·refine xw ?_
  exact Z
 refine xw ?_
 refine Y ?_
 refine k'3 [] (c_version) rfl rfl rfl ?_
 refine xw ?_
 refine Y ?_
 cases h_2 : txt x.version
 ·refine xw ?_
  exact Z
 refine xw ?_
 refine Y ?_
 rw [k'5 1 (by omega) (by omega) (by omega) hd2]
 refine k'3 [] (c_a) rfl rfl rfl ?_
 refine xw ?_
 refine Y ?_
 cases h_3 : (x.attrs.all fun k => k.may (d - 1))
 ·refine xw ?_
  exact Z
 refine xw ?_
 refine Y ?_
 refine k'3 [] (c_t) rfl rfl rfl ?_
 refine xw ?_
 refine Y ?_
 refine k'3 [] (c_u) rfl rfl rfl ?_
 refine xw ?_
 exact Z
def Rs.fixd (x : Rs) : Rs := { x with attrs := Kv.fixes x.attrs }
def Rs.rmar (x : Rs) : List UInt8 := x.fixd.mar
theorem Rs.rmar_len (x : Rs) : x.rmar.length + 20 ≤ x.sz := by
 have h := Rs.mar_len x.fixd
 unfold Rs.rmar
 unfold Rs.sz Rs.fixd at *
 rw [Kv.fixes_sz] at h
 exact h
theorem Rs.rmar_may (x : Rs) (d : Int) (h : x.may d = true) : x.rmar = x.mar := by
 unfold Rs.may at h
 simp only [Bool.and_eq_true] at h
 unfold Rs.rmar Rs.fixd
 rw [Kv.fixes_may x.attrs (d - 1) (by rw [Kv.mays_all]; exact h.1.2)]
theorem rRs_calls (x : Rs) (xa : D) (hbig : x.sz < big) (hwf : x.wf) (hx : x.R xa) : k'0 (cx B) 100 [.d xa] [] (sT x.rmar) [] := by
 have hlen := x.rmar_len
 have hlen : x.rmar.length < big := by omega
 obtain ⟨z, l, rfl, r_a⟩ := hx
 obtain ⟨w_a, w_d⟩ := hwf
 unfold Rs.sz at hbig
 have c0 := k'4o B 1 (by omega) (by omega) x.attrs z l (by omega) w_a r_a
 have c1 := k'18 B 2 x.dropped (by omega) (by omega) (by omega)
 have e : x.rmar = psV 1 (Kv.mars (Kv.fixes x.attrs)) ++ vrV 2 x.dropped ++ x.u := rfl
 rw [e] at hlen ⊢
 clear e
 generalize psV 1 (Kv.mars (Kv.fixes x.attrs)) = o0 at *
 generalize vrV 2 x.dropped = o1 at *
 unfold big at hlen
 simp only [List.length_append] at hlen
 refine l_bw Tryz.func100 0 [] ?_
 refine x_cw [] (c0) rfl rfl rfl ?_
 rw [show IntKind.u64.wrap (x.dropped : Int) = (x.dropped : Int) from wrapN (by omega)]
 refine x_cw [] (c1) rfl rfl rfl ?_
 refine k'12 (.addStr rfl rfl rfl (by (try simp only [List.length_append]); omega)) rfl rfl rfl ?_
 refine Y ?_
 refine k'12 (.addStr rfl rfl rfl (by (try simp only [List.length_append]); omega)) rfl rfl rfl ?_
 exact Z
set_option maxHeartbeats 4000000 in
theorem rMayRs_calls (x : Rs) (xa : D) (d : Int) (hbig : x.sz < big) (hx : x.R xa) (hd1 : -1000 ≤ d) (hd2 : d < 9223372036854775808) : k'0 (cx B) 99 [.d xa, .d (.int .i64 d)] [] (.d (.bool (x.may d))) [] := by
 obtain ⟨z, l, rfl, r_a⟩ := hx
 unfold Rs.sz at hbig
 have c_a := k'15 B x.attrs z l (d - 1) (by omega) r_a (by omega) (by omega)
 have c_t := tabbD_calls B
 have c_u := unkbD_calls B x.u d (by omega) (by omega) hd2
 have hR : x.may d = (decide (d ≥ 0) && ((x.attrs.all fun k => k.may (d - 1)) && (k'1a tbD x.u d))) := by
  unfold Rs.may
  simp only [Bool.and_assoc, ge_iff_le]
 rw [hR]
 clear hR
 refine l_bw Tryz.func99 0 [] ?_
 refine xw ?_
 cases h_0 : decide (d ≥ 0)
 ·refine xw ?_
  exact Z
 have hd0 : 0 ≤ d := of_decide_eq_true h_0
 rw [decide_eq_true hd0, Bool.true_and] at c_u
 refine xw ?_
 refine Y ?_
 rw [k'5 1 (by omega) (by omega) (by omega) hd2]
 refine k'3 [] (c_a) rfl rfl rfl ?_
 refine xw ?_
 refine Y ?_
 cases h_1 : (x.attrs.all fun k => k.may (d - 1))
 ·refine xw ?_
  exact Z
 refine xw ?_
 refine Y ?_
 refine k'3 [] (c_t) rfl rfl rfl ?_
 refine xw ?_
 refine Y ?_
 refine k'3 [] (c_u) rfl rfl rfl ?_
 refine xw ?_
 exact Z
theorem vrV_nil {n m : Nat} : vrV n m = [] ↔ m = 0 := by
 unfold vrV
 split
 ·simp_all
 ·rename_i h
  simp only [h, iff_false]
  intro e
  unfold tagV at e
  exact absurd (List.append_eq_nil_iff.1 e).1 (putV_ne _)
theorem txV_nil {n : Nat} {s : List UInt8} : txV n s = [] ↔ s = [] := by
 unfold txV
 split
 ·simp_all
 ·rename_i h
  simp only [h, iff_false]
  intro e
  unfold paV tagV at e
  exact absurd (List.append_eq_nil_iff.1 e).1 (putV_ne _)
theorem Sc.bare (x : Sc) : x.eq noSc = (!(!(x.rmar == []) || decide (0 < x.attrs.length))) := by
 obtain ⟨n, v, a, d, u⟩ := x
 unfold Sc.eq noSc Sc.rmar Sc.fixd Sc.mar Sc.hb
 cases a with
 | cons k l => simp [Kv.eqs]
 | nil =>
  rw [Bool.eq_iff_iff]
  simp [Kv.eqs, Kv.fixes, Kv.mars, psV, txV_nil, vrV_nil, and_assoc]
theorem Rs.bare (x : Rs) : x.eq noRs = (!(!(x.rmar == []) || decide (0 < x.attrs.length))) := by
 obtain ⟨a, d, u⟩ := x
 unfold Rs.eq noRs Rs.rmar Rs.fixd Rs.mar Rs.hb
 cases a with
 | cons k l => simp [Kv.eqs]
 | nil =>
  rw [Bool.eq_iff_iff]
  simp [Kv.eqs, Kv.fixes, Kv.mars, psV, vrV_nil, and_assoc]
set_option maxHeartbeats 8000000 in
theorem rMaySm_calls (x : Sm) (xa : D) (d : Int) (hbig : smM.sz x < big) (hwf : smM.wf x) (hx : Sm.R x xa) (hd1 : -900 ≤ d) (hd2 : d < 9223372036854775808) : k'0 (cx B) 102 [.d xa, .d (.int .i64 d)] [] (.d (.bool (smM.may x d))) [] := by
 obtain ⟨zp, lp, z, l, rfl, r_p, r_qs⟩ := hx
 have hp : Sc.sz x.p < big := by
  change 300 + Sc.sz x.p + _ + _ + _ < big at hbig
  omega
 change trSz scM meM x < big at hbig
 unfold trSz at hbig
 have hla := k'22 (sz := meM.sz) (fun y => by show 1 ≤ Me.sz y; unfold Me.sz; omega) x.qs
 have c_m := rMaySc_calls B x.p _ (d - 1) hp ⟨zp, lp, rfl, r_p⟩ (by omega) (by omega)
 have c_w := rSc_calls B x.p _ hp hwf.1 ⟨zp, lp, rfl, r_p⟩
 have c_t := k'17 B x.sch (by omega)
 have c_3 := tabb3_calls B
 have c_u := unkb3_calls B x.u d (by omega) (by omega) hd2
 have hlp := Kv.Rs_len r_p
 have hbr := Sc.bare x.p
 rw [← hlp] at hbr
 have hP : mayP scM x.has x.p (d - 1) = (if x.has then Sc.may x.p (d - 1) else Sc.eq x.p noSc) := rfl
 have hR : smM.may x d = (mayP scM x.has x.p (d - 1) && (txt x.sch && ((decide (0 ≤ d) && k'1a tb3 x.u d) && x.qs.all fun k => meM.may k (d - 1)))) := by
  show trMay scM meM x d = _
  unfold trMay
  cases decide (0 ≤ d) <;> cases mayP scM x.has x.p (d - 1) <;> cases txt x.sch <;> cases k'1a tb3 x.u d <;> simp
 rw [hR, hP]
 clear hR hP
 have hB9 : big = 34359738368 := rfl
 generalize Sc.rmar x.p = rt at *
 generalize Sc.eq x.p noSc = pe at *
 generalize Sc.may x.p (d - 1) = pm at *
 generalize hru : (decide (0 ≤ d) && k'1a tb3 x.u d) = ru at *
 generalize txt x.sch = tt at *
 obtain ⟨xhas, xp, xqs, xsch, xu⟩ := x
 dsimp only at *
 refine l_bw Tryz.func102 0 [] ?_
 refine xw ?_
 cases xhas
 rotate_left
 ·refine xw ?_
  refine Y ?_
  rw [k'5 1 (by omega) (by omega) (by omega) hd2]
  refine k'3 [] (c_m) rfl rfl rfl ?_
  refine xw ?_
  refine Y ?_
  cases pm
  ·refine xw ?_
   exact Z
  refine xw ?_
  refine Y ?_
  refine k'3 [] (c_t) rfl rfl rfl ?_
  refine xw ?_
  refine Y ?_
  cases tt
  ·refine xw ?_
   exact Z
  refine xw ?_
  refine Y ?_
  refine k'3 [] (c_3) rfl rfl rfl ?_
  refine xw ?_
  refine Y ?_
  refine k'3 [] (c_u) rfl rfl rfl ?_
  refine xw ?_
  refine Y ?_
  cases ru
  ·refine xw ?_
   exact Z
  have hd0 : 0 ≤ d := by simp at hru; exact hru.1
  refine xw ?_
  refine Y ?_
  refine k'8 (fun i : Nat => l.length - i) (fun i => [(1, .d (.int .i64 d)), (2, .ptr 0 0), (5, iT i)]) (fun _ => _) (fun i => i ≤ l.length ∧ (xqs.take i).all (fun k => meM.may k (d - 1)) = true) 0 ⟨by omega, rfl⟩ ⟨rfl, rfl, rfl, trivial⟩ rfl 1 rfl (fun _ => rfl) (fun _ => rfl) (fun _ => rfl) ?_
  rintro i ⟨i1, i2⟩
  have hlq := r_qs.1
  refine Y ?_
  by_cases hlt : i < l.length
  ·rw [show decide ((i : Int) < l.length) = true from decide_eq_true (by omega)]
   obtain ⟨q, hqi⟩ : ∃ q, l[i]? = some q := ⟨_, List.getElem?_eq_getElem hlt⟩
   obtain ⟨v, hv, hvr⟩ := r_qs.at hqi
   have hmem := List.mem_of_getElem? hv
   have hvs := k'x (sz := meM.sz) hmem
   have hc : k'0 (cx B) 153 [.d q, .d (.int .i64 (d - 1))] [] (.d (.bool (meM.may v (d - 1)))) [] := rMayMe_calls B v q (d - 1) (by change Me.sz v ≤ _ at hvs; omega) hvr (by omega) (by omega)
   obtain ⟨y0, y1, y2, y3, y4, y5, y6, y7, y8, y9, y10, y11, y12, y13, y14, y15, y16, y17, rfl⟩ := Me.Rs_sh r_qs q (List.mem_of_getElem? hqi)
   refine Y ?_
   refine k'1 (.indexAddr (k := .i64) (n := i) (es := l) rfl rfl rfl rfl (.inl ⟨_, rfl⟩) rfl (by omega) (by simpa using hqi) rfl (by decide)) rfl rfl ?_
   refine Y ?_
   rw [k'5 1 (by omega) (by omega) (by omega) hd2]
   refine l_cw [] (hc) rfl rfl rfl ?_
   cases hm : meM.may v (d - 1)
   ·rw [show (xqs.all fun k => meM.may k (d - 1)) = false from by
     cases hh : (xqs.all fun k => meM.may k (d - 1)) with
     | false => rfl
     | true => have := List.all_eq_true.1 hh v hmem; rw [hm] at this; simp at this]
    exact Z
   refine Y ?_
   rw [wS i (by omega)]
   exact ⟨i + 1, by omega, ⟨by omega, k'1i i2 hv hm⟩, ⟨rfl, rfl, rfl, trivial⟩, rfl, k'z rfl⟩
  ·rw [show decide ((i : Int) < l.length) = false from decide_eq_false (by omega)]
   rw [List.take_of_length_le (by omega)] at i2
   rw [i2]
   exact Z
 refine xw ?_
 refine Y ?_
 refine k'3 [] (c_w) rfl rfl rfl ?_
 refine xw ?_
 refine Y ?_
 cases rt with
 | cons r0 r1 =>
  have hpe : pe = false := by rw [hbr]; simp
  subst hpe
  refine xw ?_
  exact Z
 | nil =>
  refine xw ?_
  refine Y ?_
  cases hlp0 : decide ((lp.length : Int) > 0)
  rotate_left
  ·have hpe : pe = false := by rw [hbr]; simp at hlp0 ⊢; omega
   subst hpe
   refine xw ?_
   exact Z
  have hpe : pe = true := by rw [hbr]; simp at hlp0 ⊢; omega
  subst hpe
  refine xw ?_
  refine Y ?_
  refine k'3 [] (c_t) rfl rfl rfl ?_
  refine xw ?_
  refine Y ?_
  cases tt
  ·refine xw ?_
   exact Z
  refine xw ?_
  refine Y ?_
  refine k'3 [] (c_3) rfl rfl rfl ?_
  refine xw ?_
  refine Y ?_
  refine k'3 [] (c_u) rfl rfl rfl ?_
  refine xw ?_
  refine Y ?_
  cases ru
  ·refine xw ?_
   exact Z
  have hd0 : 0 ≤ d := by simp at hru; exact hru.1
  refine xw ?_
  refine Y ?_
  refine k'8 (fun i : Nat => l.length - i) (fun i => [(1, .d (.int .i64 d)), (2, .ptr 0 0), (5, iT i)]) (fun _ => _) (fun i => i ≤ l.length ∧ (xqs.take i).all (fun k => meM.may k (d - 1)) = true) 0 ⟨by omega, rfl⟩ ⟨rfl, rfl, rfl, trivial⟩ rfl 1 rfl (fun _ => rfl) (fun _ => rfl) (fun _ => rfl) ?_
  rintro i ⟨i1, i2⟩
  have hlq := r_qs.1
  refine Y ?_
  by_cases hlt : i < l.length
  ·rw [show decide ((i : Int) < l.length) = true from decide_eq_true (by omega)]
   obtain ⟨q, hqi⟩ : ∃ q, l[i]? = some q := ⟨_, List.getElem?_eq_getElem hlt⟩
   obtain ⟨v, hv, hvr⟩ := r_qs.at hqi
   have hmem := List.mem_of_getElem? hv
   have hvs := k'x (sz := meM.sz) hmem
   have hc : k'0 (cx B) 153 [.d q, .d (.int .i64 (d - 1))] [] (.d (.bool (meM.may v (d - 1)))) [] := rMayMe_calls B v q (d - 1) (by change Me.sz v ≤ _ at hvs; omega) hvr (by omega) (by omega)
   obtain ⟨y0, y1, y2, y3, y4, y5, y6, y7, y8, y9, y10, y11, y12, y13, y14, y15, y16, y17, rfl⟩ := Me.Rs_sh r_qs q (List.mem_of_getElem? hqi)
   refine Y ?_
   refine k'1 (.indexAddr (k := .i64) (n := i) (es := l) rfl rfl rfl rfl (.inl ⟨_, rfl⟩) rfl (by omega) (by simpa using hqi) rfl (by decide)) rfl rfl ?_
   refine Y ?_
   rw [k'5 1 (by omega) (by omega) (by omega) hd2]
   refine l_cw [] (hc) rfl rfl rfl ?_
   cases hm : meM.may v (d - 1)
   ·rw [show (xqs.all fun k => meM.may k (d - 1)) = false from by
     cases hh : (xqs.all fun k => meM.may k (d - 1)) with
     | false => rfl
     | true => have := List.all_eq_true.1 hh v hmem; rw [hm] at this; simp at this]
    exact Z
   refine Y ?_
   rw [wS i (by omega)]
   exact ⟨i + 1, by omega, ⟨by omega, k'1i i2 hv hm⟩, ⟨rfl, rfl, rfl, trivial⟩, rfl, k'z rfl⟩
  ·rw [show decide ((i : Int) < l.length) = false from decide_eq_false (by omega)]
   rw [List.take_of_length_le (by omega)] at i2
   rw [i2]
   exact Z
set_option maxHeartbeats 8000000 in
theorem rMayRm_calls (x : Rm) (xa : D) (d : Int) (hbig : rmM.sz x < big) (hwf : rmM.wf x) (hx : Rm.R x xa) (hd1 : -900 ≤ d) (hd2 : d < 9223372036854775808) : k'0 (cx B) 49 [.d xa, .d (.int .i64 d)] [] (.d (.bool (rmM.may x d))) [] := by
 obtain ⟨zp, lp, z, l, rfl, r_p, r_qs⟩ := hx
 have hp : Rs.sz x.p < big := by
  change 300 + Rs.sz x.p + _ + _ + _ < big at hbig
  omega
 change trSz rsM smM x < big at hbig
 unfold trSz at hbig
 have hla := k'22 (sz := smM.sz) (fun y => Sm.sz1 y) x.qs
 have c_m := rMayRs_calls B x.p _ (d - 1) hp ⟨zp, lp, rfl, r_p⟩ (by omega) (by omega)
 have c_w := rRs_calls B x.p _ hp hwf.1 ⟨zp, lp, rfl, r_p⟩
 have c_t := k'17 B x.sch (by omega)
 have c_3 := tabb3_calls B
 have c_u := unkb3_calls B x.u d (by omega) (by omega) hd2
 have hlp := Kv.Rs_len r_p
 have hbr := Rs.bare x.p
 rw [← hlp] at hbr
 have hP : mayP rsM x.has x.p (d - 1) = (if x.has then Rs.may x.p (d - 1) else Rs.eq x.p noRs) := rfl
 have hR : rmM.may x d = (mayP rsM x.has x.p (d - 1) && (txt x.sch && ((decide (0 ≤ d) && k'1a tb3 x.u d) && x.qs.all fun k => smM.may k (d - 1)))) := by
  show trMay rsM smM x d = _
  unfold trMay
  cases decide (0 ≤ d) <;> cases mayP rsM x.has x.p (d - 1) <;> cases txt x.sch <;> cases k'1a tb3 x.u d <;> simp
 rw [hR, hP]
 clear hR hP
 have hB9 : big = 34359738368 := rfl
 generalize Rs.rmar x.p = rt at *
 generalize Rs.eq x.p noRs = pe at *
 generalize Rs.may x.p (d - 1) = pm at *
 generalize hru : (decide (0 ≤ d) && k'1a tb3 x.u d) = ru at *
 generalize txt x.sch = tt at *
 obtain ⟨xhas, xp, xqs, xsch, xu⟩ := x
 dsimp only at *
 refine l_bw Tryz.func49 0 [] ?_
 refine xw ?_
 cases xhas
 rotate_left
 ·refine xw ?_
  refine Y ?_
  rw [k'5 1 (by omega) (by omega) (by omega) hd2]
  refine k'3 [] (c_m) rfl rfl rfl ?_
  refine xw ?_
  refine Y ?_
  cases pm
  ·refine xw ?_
   exact Z
  refine xw ?_
  refine Y ?_
  refine k'3 [] (c_t) rfl rfl rfl ?_
  refine xw ?_
  refine Y ?_
  cases tt
  ·refine xw ?_
   exact Z
  refine xw ?_
  refine Y ?_
  refine k'3 [] (c_3) rfl rfl rfl ?_
  refine xw ?_
  refine Y ?_
  refine k'3 [] (c_u) rfl rfl rfl ?_
  refine xw ?_
  refine Y ?_
  cases ru
  ·refine xw ?_
   exact Z
  have hd0 : 0 ≤ d := by simp at hru; exact hru.1
  refine xw ?_
  refine Y ?_
  refine k'8 (fun i : Nat => l.length - i) (fun i => [(1, .d (.int .i64 d)), (2, .ptr 0 0), (5, iT i)]) (fun _ => _) (fun i => i ≤ l.length ∧ (xqs.take i).all (fun k => smM.may k (d - 1)) = true) 0 ⟨by omega, rfl⟩ ⟨rfl, rfl, rfl, trivial⟩ rfl 1 rfl (fun _ => rfl) (fun _ => rfl) (fun _ => rfl) ?_
  rintro i ⟨i1, i2⟩
  have hlq := r_qs.1
  refine Y ?_
  by_cases hlt : i < l.length
  ·rw [show decide ((i : Int) < l.length) = true from decide_eq_true (by omega)]
   obtain ⟨q, hqi⟩ : ∃ q, l[i]? = some q := ⟨_, List.getElem?_eq_getElem hlt⟩
   obtain ⟨v, hv, hvr⟩ := r_qs.at hqi
   have hmem := List.mem_of_getElem? hv
   have hvs := k'x (sz := smM.sz) hmem
   have hc := rMaySm_calls B v q (d - 1) (by omega) (hwf.2 v hmem) hvr (by omega) (by omega)
   obtain ⟨y0, y1, y2, y3, y4, y5, y6, y7, y8, y9, y10, rfl⟩ := Sm.R_sh r_qs q (List.mem_of_getElem? hqi)
   refine Y ?_
   refine k'1 (.indexAddr (k := .i64) (n := i) (es := l) rfl rfl rfl rfl (.inl ⟨_, rfl⟩) rfl (by omega) (by simpa using hqi) rfl (by decide)) rfl rfl ?_
   refine Y ?_
   rw [k'5 1 (by omega) (by omega) (by omega) hd2]
   refine l_cw [] (hc) rfl rfl rfl ?_
   cases hm : smM.may v (d - 1)
   ·rw [show (xqs.all fun k => smM.may k (d - 1)) = false from by
     cases hh : (xqs.all fun k => smM.may k (d - 1)) with
     | false => rfl
     | true => have := List.all_eq_true.1 hh v hmem; rw [hm] at this; simp at this]
    exact Z
   refine Y ?_
   rw [wS i (by omega)]
   exact ⟨i + 1, by omega, ⟨by omega, k'1i i2 hv hm⟩, ⟨rfl, rfl, rfl, trivial⟩, rfl, k'z rfl⟩
  ·rw [show decide ((i : Int) < l.length) = false from decide_eq_false (by omega)]
   rw [List.take_of_length_le (by omega)] at i2
   rw [i2]
   exact Z
 refine xw ?_
 refine Y ?_
 refine k'3 [] (c_w) rfl rfl rfl ?_
 refine xw ?_
 refine Y ?_
 cases rt with
 | cons r0 r1 =>
  have hpe : pe = false := by rw [hbr]; simp
  subst hpe
  refine xw ?_
  exact Z
 | nil =>
  refine xw ?_
  refine Y ?_
  cases hlp0 : decide ((lp.length : Int) > 0)
  rotate_left
  ·have hpe : pe = false := by rw [hbr]; simp at hlp0 ⊢; omega
   subst hpe
   refine xw ?_
   exact Z
  have hpe : pe = true := by rw [hbr]; simp at hlp0 ⊢; omega
  subst hpe
  refine xw ?_
  refine Y ?_
  refine k'3 [] (c_t) rfl rfl rfl ?_
  refine xw ?_
  refine Y ?_
  cases tt
  ·refine xw ?_
   exact Z
  refine xw ?_
  refine Y ?_
  refine k'3 [] (c_3) rfl rfl rfl ?_
  refine xw ?_
  refine Y ?_
  refine k'3 [] (c_u) rfl rfl rfl ?_
  refine xw ?_
  refine Y ?_
  cases ru
  ·refine xw ?_
   exact Z
  have hd0 : 0 ≤ d := by simp at hru; exact hru.1
  refine xw ?_
  refine Y ?_
  refine k'8 (fun i : Nat => l.length - i) (fun i => [(1, .d (.int .i64 d)), (2, .ptr 0 0), (5, iT i)]) (fun _ => _) (fun i => i ≤ l.length ∧ (xqs.take i).all (fun k => smM.may k (d - 1)) = true) 0 ⟨by omega, rfl⟩ ⟨rfl, rfl, rfl, trivial⟩ rfl 1 rfl (fun _ => rfl) (fun _ => rfl) (fun _ => rfl) ?_
  rintro i ⟨i1, i2⟩
  have hlq := r_qs.1
  refine Y ?_
  by_cases hlt : i < l.length
  ·rw [show decide ((i : Int) < l.length) = true from decide_eq_true (by omega)]
   obtain ⟨q, hqi⟩ : ∃ q, l[i]? = some q := ⟨_, List.getElem?_eq_getElem hlt⟩
   obtain ⟨v, hv, hvr⟩ := r_qs.at hqi
   have hmem := List.mem_of_getElem? hv
   have hvs := k'x (sz := smM.sz) hmem
   have hc := rMaySm_calls B v q (d - 1) (by omega) (hwf.2 v hmem) hvr (by omega) (by omega)
   obtain ⟨y0, y1, y2, y3, y4, y5, y6, y7, y8, y9, y10, rfl⟩ := Sm.R_sh r_qs q (List.mem_of_getElem? hqi)
   refine Y ?_
   refine k'1 (.indexAddr (k := .i64) (n := i) (es := l) rfl rfl rfl rfl (.inl ⟨_, rfl⟩) rfl (by omega) (by simpa using hqi) rfl (by decide)) rfl rfl ?_
   refine Y ?_
   rw [k'5 1 (by omega) (by omega) (by omega) hd2]
   refine l_cw [] (hc) rfl rfl rfl ?_
   cases hm : smM.may v (d - 1)
   ·rw [show (xqs.all fun k => smM.may k (d - 1)) = false from by
     cases hh : (xqs.all fun k => smM.may k (d - 1)) with
     | false => rfl
     | true => have := List.all_eq_true.1 hh v hmem; rw [hm] at this; simp at this]
    exact Z
   refine Y ?_
   rw [wS i (by omega)]
   exact ⟨i + 1, by omega, ⟨by omega, k'1i i2 hv hm⟩, ⟨rfl, rfl, rfl, trivial⟩, rfl, k'z rfl⟩
  ·rw [show decide ((i : Int) < l.length) = false from decide_eq_false (by omega)]
   rw [List.take_of_length_le (by omega)] at i2
   rw [i2]
   exact Z
