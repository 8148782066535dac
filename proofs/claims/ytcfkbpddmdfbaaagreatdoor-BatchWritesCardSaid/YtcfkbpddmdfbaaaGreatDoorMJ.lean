/- Metrics: tables, kinds, what is bare. -/
import Derived.Test.YtcfkbpddmdfbaaaGreatDoorDW
set_option linter.unusedSimpArgs false
set_option linter.unusedVariables false
set_option maxRecDepth 100000
namespace Go.Proofs.YtcfkbpddmdfbaaaGreatDoor
open Go Go.Abs
variable (B : Fr)
theorem IndexB_calls (z : Bool) (ns : List Bool) (x : Bool) (hl : ns.length < 1000) : k'0 (cx B) 330 [.d (.sl z (ns.map D.bool)), .d (.bool x)] [] (.d (.int .i64 (match ns.findIdx? (· == x) with | some i => (i : Int) | none => -1))) [] := by
 have hlen : (ns.map D.bool).length = ns.length := by simp
 refine l_bw Tryz.func330 0 [] ?_
 rw [hlen]
 refine k'8 (fun i : Nat => ns.length - i) (fun i => [(0, .d (.sl z (ns.map D.bool))), (1, .d (.bool x)), (7, iT ns.length), (8, iT i)]) (fun _ => []) (fun i => i ≤ ns.length ∧ ns.findIdx? (· == x) = ((ns.drop i).findIdx? (· == x)).map (· + i)) 0 ⟨by omega, by simp⟩ ⟨rfl, rfl, rfl, rfl, trivial⟩ rfl 0 rfl (fun _ => rfl) (fun _ => rfl) (fun _ => rfl) ?_
 rintro i ⟨i1, i2⟩
 refine Y ?_
 by_cases hlt : i < ns.length
 ·rw [show decide ((i : Int) < ns.length) = true from decide_eq_true (by omega)]
  obtain ⟨y, hy⟩ : ∃ y, ns[i]? = some y := ⟨_, List.getElem?_eq_getElem hlt⟩
  have hdy : (ns.map D.bool)[i]? = some (D.bool y) := by rw [List.getElem?_map, hy]; rfl
  have hdr : ns.drop i = y :: ns.drop (i + 1) := by
   rw [List.drop_eq_getElem_cons hlt]; rw [List.getElem?_eq_getElem hlt] at hy; injection hy with hy; rw [hy]
  rw [hdr, List.findIdx?_cons] at i2
  refine Y ?_
  refine k'1 (.indexAddr (k := .i64) (n := i) (es := ns.map D.bool) (u := D.bool y) rfl rfl rfl rfl (.inl ⟨_, rfl⟩) rfl (by omega) (by simpa using hdy) rfl (by decide)) rfl rfl ?_
  refine Y ?_
  cases he : (x == y)
  rotate_left
  ·have he := eq_of_beq he
   subst he
   refine Y ?_
   rw [i2]
   simp only [beq_self_eq_true, cond_true, if_true, Option.map_some, Nat.zero_add]
   exact k'i rfl
  have he2 : (y == x) = false := by cases x <;> cases y <;> simp_all
  refine Y ?_
  rw [wS i (by omega)]
  refine ⟨i + 1, by omega, ⟨by omega, ?_⟩, ⟨rfl, rfl, rfl, rfl, trivial⟩, rfl, k'z rfl⟩
  rw [i2, he2]
  simp only [Bool.false_eq_true, if_false, Option.map_map]
  congr 1
  funext k; simp; omega
 ·rw [show decide ((i : Int) < ns.length) = false from decide_eq_false (by omega)]
  have hge : i = ns.length := by omega
  subst hge
  rw [List.drop_length] at i2
  rw [i2]
  exact Z
theorem k'1h (a b c : Bool) : k'0 (cx B) 249 [.d (.sl false [.bool a, .bool b, .bool c]), .d (.bool false)] [] (.d (.bool (!(a && (b && c))))) [] := by
 have h1 := IndexB_calls B false [a, b, c] false (by simp)
 have hc : decide ((match [a, b, c].findIdx? (· == false) with | some i => (i : Int) | none => -1) ≥ 0) = !(a && (b && c)) := by cases a <;> cases b <;> cases c <;> rfl
 generalize (match [a, b, c].findIdx? (· == false) with | some i => (i : Int) | none => -1) = k at *
 refine l_bw Tryz.func249 0 [] ?_
 refine l_cw [] (h1) rfl rfl rfl ?_
 rw [hc]
 exact k'i rfl
theorem numberOf_calls (k : Int) : k'0 (cx B) 211 [.d (.int .i64 k)] [] (iT (numK k)) [] := by
 refine l_bw Tryz.func211 0 [] ?_
 cases h1 : (k == 1) with
 | true =>
  have e := eq_of_beq h1
  subst e
  exact Z
 | false =>
 have e1 := ne_of_beq_false h1
 refine Y ?_
 cases h2 : (k == 2) with
 | true =>
  have e := eq_of_beq h2
  subst e
  exact Z
 | false =>
 have e2 := ne_of_beq_false h2
 refine Y ?_
 cases h3 : (k == 3) with
 | true =>
  have e := eq_of_beq h3
  subst e
  exact Z
 | false =>
 have e3 := ne_of_beq_false h3
 refine Y ?_
 cases h4 : (k == 4) with
 | true =>
  have e := eq_of_beq h4
  subst e
  exact Z
 | false =>
 have e4 := ne_of_beq_false h4
 refine Y ?_
 cases h5 : (k == 5) with
 | true =>
  have e := eq_of_beq h5
  subst e
  exact Z
 | false =>
 have e5 := ne_of_beq_false h5
 refine Y ?_
 rw [show numK k = 0 by unfold numK; rw [if_neg e1, if_neg e2, if_neg e3, if_neg e4, if_neg e5]]
 exact k'i rfl
theorem numK_inj {k : Int} (h1 : 1 ≤ k) (h2 : k ≤ 5) : kindK (numK k) = k := by
 have : k = 1 ∨ k = 2 ∨ k = 3 ∨ k = 4 ∨ k = 5 := by omega
 rcases this with rfl | rfl | rfl | rfl | rfl <;> rfl
theorem kindOf_calls (n : Nat) : k'0 (cx B) 214 [iT n] [] (.d (.int .i64 (kindK n))) [] := by
 refine l_bw Tryz.func214 0 [] ?_
 refine k'8 (fun k : Nat => 6 - k) (fun k => [(0, iT n), (3, iT k)]) (fun _ => []) (fun k => 1 ≤ k ∧ k ≤ 6 ∧ ∀ j : Nat, 1 ≤ j → j < k → numK j ≠ n) 1 ⟨by omega, by omega, fun j h1 h2 => by omega⟩ ⟨rfl, rfl, trivial⟩ rfl 0 rfl (fun _ => rfl) (fun _ => rfl) (fun _ => rfl) ?_
 rintro k ⟨k1, k2, k3⟩
 refine Y ?_
 by_cases hlt : k ≤ 5
 ·rw [show decide ((k : Int) ≤ 5) = true from decide_eq_true (by omega)]
  have hc := numberOf_calls B k
  refine Y ?_
  refine l_cw [] (hc) rfl rfl rfl ?_
  rw [ibeq]
  cases he : (numK k == n)
  rotate_left
  ·have he := eq_of_beq he
   rw [← he, numK_inj (by omega) (by omega)]
   exact Z
  have he := ne_of_beq_false he
  refine Y ?_
  rw [wS k (by omega)]
  exact ⟨k + 1, by omega, ⟨by omega, by omega, fun j h1 h2 => by
   rcases Nat.lt_or_ge j k with g | g
   ·exact k3 j h1 g
   ·obtain rfl : j = k := by omega
    exact he⟩, ⟨rfl, rfl, trivial⟩, rfl, k'z rfl⟩
 ·rw [show decide ((k : Int) ≤ 5) = false from decide_eq_false (by omega)]
  have e1 : 5 ≠ n := k3 1 (by omega) (by omega)
  have e2 : 7 ≠ n := k3 2 (by omega) (by omega)
  have e3 : 9 ≠ n := k3 3 (by omega) (by omega)
  have e4 : 10 ≠ n := k3 4 (by omega) (by omega)
  have e5 : 11 ≠ n := k3 5 (by omega) (by omega)
  rw [show kindK n = 0 by unfold kindK; rw [if_neg (Ne.symm e1), if_neg (Ne.symm e2), if_neg (Ne.symm e3), if_neg (Ne.symm e4), if_neg (Ne.symm e5)]]
  exact Z
theorem tbM_calls (n k : Nat) : k'0 (cx B) 196 [iT n, iT k] [] (.d (.bool (tbM n k))) [] := by
 have h := kindOf_calls B n
 have hR : tbM n k = ((k : Int) == 2 && ((decide ((n : Int) ≥ 1) && decide ((n : Int) ≤ 3)) || ((n : Int) == 12 || decide (kindK n > 0)))) := by
  unfold tbM
  rw [show ((k : Int) == 2) = (k == 2) from ibeq k 2, show ((n : Int) == 12) = (n == 12) from ibeq n 12, show decide ((n : Int) ≥ 1) = decide (1 ≤ n) by congr 1; apply propext; omega, show decide ((n : Int) ≤ 3) = decide (n ≤ 3) by congr 1; apply propext; omega]
 rw [hR]
 clear hR
 refine l_bw Tryz.func196 0 [] ?_
 cases e0 : ((k : Int) == 2)
 ·exact Z
 refine Y ?_
 cases e1 : decide ((n : Int) ≥ 1)
 ·refine Y ?_
  cases e3 : ((n : Int) == 12)
  rotate_left
  ·exact Z
  refine Y ?_
  refine k'a [] (h) rfl rfl rfl rfl rfl ?_
  exact Z
 refine Y ?_
 cases e2 : decide ((n : Int) ≤ 3)
 rotate_left
 ·exact Z
 refine Y ?_
 cases e3 : ((n : Int) == 12)
 rotate_left
 ·exact Z
 refine Y ?_
 refine k'a [] (h) rfl rfl rfl rfl rfl ?_
 exact Z
theorem inner_calls (k : Int) : k'0 (cx B) 258 [.d (.int .i64 k)] [] (.d (.fn 350 [.box [.int .i64 k]])) [] := by
 refine l_b0 Tryz.func258 0 [] ?_
 exact Z
theorem innerT (k : Int) : TblC B 350 [.box [.int .i64 k]] (tbI k) := fun n kd => by
 show k'0 (cx B) 350 [iT n, iT kd, .d (.box [.int .i64 k])] [] (.d (.bool (tbI k n kd))) []
 cases h3 : ((n : Int) == 3)
 rotate_left
 ·have e : n = 3 := by have := eq_of_beq h3; omega
  subst e
  cases hk : (k != 2)
  rotate_left
  ·have hk' : (k == 2) = false := by rw [← Bool.not_inj_iff]; simpa [bne] using hk
   rw [show tbI k 3 kd = (kd == 0 && k == 2) from rfl, hk', Bool.and_false]
   refine l_bw Tryz.func350 0 [] ?_
   rw [hk]
   exact Z
  have hk' : k = 2 := by simpa [bne] using hk
  subst hk'
  rw [show tbI 2 3 kd = ((kd : Int) == 0) by rw [show ((kd : Int) == 0) = (kd == 0) from ibeq kd 0]; show (kd == 0 && true) = _; rw [Bool.and_true]]
  refine l_bw Tryz.func350 0 [] ?_
  cases e0 : ((kd : Int) == 0)
  rotate_left
  ·exact Z
  exact Z
 cases h2 : ((n : Int) == 2)
 rotate_left
 ·have e : n = 2 := by have := eq_of_beq h2; omega
  subst e
  rw [show tbI k 2 kd = ((kd : Int) == 0 && (decide (k ≥ 2) && decide (k ≤ 4))) by rw [show ((kd : Int) == 0) = (kd == 0) from ibeq kd 0]; rfl]
  refine l_bw Tryz.func350 0 [] ?_
  cases e0 : ((kd : Int) == 0)
  ·exact Z
  refine Y ?_
  cases e1 : decide (k ≥ 2)
  ·exact Z
  exact Z
 have n3 : n ≠ 3 := by have := ne_of_beq_false h3; omega
 have n2 : n ≠ 2 := by have := ne_of_beq_false h2; omega
 cases h1 : ((n : Int) == 1)
 rotate_left
 ·have e : n = 1 := by have := eq_of_beq h1; omega
  subst e
  rw [show tbI k 1 kd = ((kd : Int) == 2) from (ibeq kd 2).symm]
  refine l_b0 Tryz.func350 0 [] ?_
  exact Z
 have n1 : n ≠ 1 := by have := ne_of_beq_false h1; omega
 rw [show tbI k n kd = false by unfold tbI; simp [n1, n2, n3]]
 refine l_bw Tryz.func350 0 [] ?_
 rw [h3]
 refine Y ?_
 rw [h2]
 refine Y ?_
 rw [h1]
 exact Z
/-! Metrics as data. -/
def Me.d (x : Me) : D := .agg [.str x.name, .str x.desc, .str x.unit, .int .i64 x.kind, .int .i32 x.dat.temp, .bool x.dat.mono, slD (x.dat.nbs.map Nb.d), slD (x.dat.his.map Hi.d), slD (x.dat.ehs.map Eh.d), slD (x.dat.sus.map Su.d), slD (Kv.ds x.mets), .str x.dat.u, .str x.u]
def Me.R (x : Me) (a : D) : Prop := ∃ (z_nbs : Bool) (l_nbs : List D) (z_his : Bool) (l_his : List D) (z_ehs : Bool) (l_ehs : List D) (z_sus : Bool) (l_sus : List D) (z_mets : Bool) (l_mets : List D), a = .agg [.str x.name, .str x.desc, .str x.unit, .int .i64 x.kind, .int .i32 x.dat.temp, .bool x.dat.mono, .sl z_nbs l_nbs, .sl z_his l_his, .sl z_ehs l_ehs, .sl z_sus l_sus, .sl z_mets l_mets, .str x.dat.u, .str x.u] ∧ RsOf Nb.R x.dat.nbs l_nbs ∧ RsOf Hi.R x.dat.his l_his ∧ RsOf Eh.R x.dat.ehs l_ehs ∧ RsOf Su.R x.dat.sus l_sus ∧ Kv.Rs x.mets l_mets
def MeSh (x : D) : Prop := ∃ (a0 a1 a2 : List UInt8) (a3 a4 : Int) (a5 a6 : Bool) (a7 : List D) (a8 : Bool) (a9 : List D) (a10 : Bool) (a11 : List D) (a12 : Bool) (a13 : List D) (a14 : Bool) (a15 : List D) (a16 a17 : List UInt8), x = .agg [.str a0, .str a1, .str a2, .int .i64 a3, .int .i32 a4, .bool a5, .sl a6 a7, .sl a8 a9, .sl a10 a11, .sl a12 a13, .sl a14 a15, .str a16, .str a17]
theorem Me.R_sh {x : Me} {a : D} (h : x.R a) : MeSh a := by
 obtain ⟨z_nbs, l_nbs, z_his, l_his, z_ehs, l_ehs, z_sus, l_sus, z_mets, l_mets, h, -⟩ := h
 exact ⟨_, _, _, _, _, _, _, _, _, _, _, _, _, _, _, _, _, _, h⟩
theorem Me.d_R (x : Me) : x.R x.d := ⟨_, _, _, _, _, _, _, _, _, _, rfl, RsOf.map Nb.d_R _, RsOf.map Hi.d_R _, RsOf.map Eh.d_R _, RsOf.map Su.d_R _, Kv.ds_R _⟩
theorem Me.Rs_sh {l : List Me} {xs : List D} (h : RsOf Me.R l xs) : ∀ x ∈ xs, MeSh x := fun x hx => by
 obtain ⟨v, -, r⟩ := h.mem hx
 exact Me.R_sh r
def bareM (k : Int) (x : In) : Bool := decide (0 ≤ k) && decide (k ≤ 5) && bareI k x && (if k = 0 then x.isNo else true)
theorem mayOn_bare (k : Int) (x : In) (e : Int) : mayOn k x e = (bareM k x && (!decide (k > 0) || mayI k x e)) := by
 unfold mayOn bareM
 by_cases h0 : k = 0
 ·subst h0; simp
 ·rw [if_neg h0, if_neg h0]
  by_cases h1 : 0 ≤ k
  ·rw [decide_eq_true (show k > 0 by omega)]; simp
  ·rw [decide_eq_false h1]; simp
theorem len0 {α : Type} {R : α → D → Prop} {l : List α} {xs : List D} (h : RsOf R l xs) : ((xs.length : Int) == 0) = l.isEmpty := by
 rw [h.1]
 cases l with
 | nil => rfl
 | cons a l => rw [show (a :: l).isEmpty = false from rfl]; simp; omega
set_option maxHeartbeats 4000000 in
theorem mbare_calls (x : Me) (xa : D) (hx : x.R xa) : k'0 (cx B) 194 [.d xa] [] (.d (.bool (bareM x.kind x.dat))) [] := by
 obtain ⟨z_nbs, l_nbs, z_his, l_his, z_ehs, l_ehs, z_sus, l_sus, z_mets, l_mets, rfl, r_nbs, r_his, r_ehs, r_sus, r_mets⟩ := hx
 have q1 := len0 r_nbs
 have q2 := len0 r_his
 have q3 := len0 r_ehs
 have q4 := len0 r_sus
 generalize hR : bareM x.kind x.dat = R
 unfold bareM bareI In.isNo at hR
 by_cases h0 : x.kind < 0 ∨ 5 < x.kind
 ·rw [show R = false from by
   rw [← hR]
   rcases h0 with h0 | h0
   ·rw [decide_eq_false (show ¬ (0 ≤ x.kind) by omega)]; simp
   ·rw [decide_eq_false (show ¬ (x.kind ≤ 5) by omega)]; simp]
  refine l_bw Tryz.func194 0 [] ?_
  rw [q2, q3, q4]
  refine k'1 (k'g.buildObj (es := [.bool x.dat.his.isEmpty, .bool x.dat.ehs.isEmpty, .bool x.dat.sus.isEmpty]) rfl rfl rfl rfl rfl rfl (by intro x hx; simp at hx; rcases hx with rfl | rfl | rfl <;> rfl) rfl (by simp) (by decide)) rfl rfl ?_
  refine k'1 (k'g.moveSlo (.inr rfl) rfl) rfl rfl ?_
  refine Y ?_
  rw [show (x.kind == 0) = false by simp; omega]
  refine Y ?_
  rw [show (x.kind == 2) = false by simp; omega]
  refine Y ?_
  rw [show (x.kind == 1) = false by simp; omega]
  refine Y ?_
  rw [show (x.kind == 3) = false by simp; omega]
  refine Y ?_
  rw [show (x.kind == 4) = false by simp; omega]
  refine Y ?_
  rw [show (x.kind == 5) = false by simp; omega]
  exact Z
 have hk : x.kind = 0 ∨ x.kind = 1 ∨ x.kind = 2 ∨ x.kind = 3 ∨ x.kind = 4 ∨ x.kind = 5 := by omega
 obtain ⟨name, desc, unit, kind, dat, mets, u⟩ := x
 obtain ⟨nbs, his, ehs, sus, temp, mono, iu⟩ := dat
 dsimp only at *
 rcases hk with rfl | rfl | rfl | rfl | rfl | rfl
 ·-- kind 0
  rw [show R = (nbs.isEmpty && ((temp == 0) && ((!mono) && ((iu == []) && (his.isEmpty && (ehs.isEmpty && sus.isEmpty)))))) from by rw [← hR]; cases nbs.isEmpty <;> cases his.isEmpty <;> cases ehs.isEmpty <;> cases sus.isEmpty <;> cases (temp == 0) <;> cases mono <;> simp]
  refine l_bw Tryz.func194 0 [] ?_
  rw [q2, q3, q4]
  refine k'1 (k'g.buildObj (es := [.bool his.isEmpty, .bool ehs.isEmpty, .bool sus.isEmpty]) rfl rfl rfl rfl rfl rfl (by intro x hx; simp at hx; rcases hx with rfl | rfl | rfl <;> rfl) rfl (by simp) (by decide)) rfl rfl ?_
  refine k'1 (k'g.moveSlo (.inr rfl) rfl) rfl rfl ?_
  refine Y ?_
  rw [q1]
  cases c_4 : nbs.isEmpty
  ·exact Z
  refine Y ?_
  cases c_6 : (temp == 0)
  ·exact Z
  refine Y ?_
  cases c_8 : (!mono)
  ·exact Z
  refine Y ?_
  rw [show (iu == ({ data := #[] } : ByteArray).data.toList) = (iu == []) from rfl]
  cases c_10 : (iu == [])
  ·exact Z
  refine Y ?_
  refine k'1j (k'g.freezeSl (ds := [.bool his.isEmpty, .bool ehs.isEmpty, .bool sus.isEmpty]) (.inl rfl) rfl rfl rfl rfl (by intro x hx; simp at hx; rcases hx with rfl | rfl | rfl <;> rfl)) rfl rfl rfl rfl ?_
  refine Y ?_
  refine k'23 [] (k'1h B his.isEmpty ehs.isEmpty sus.isEmpty) rfl rfl rfl rfl rfl ?_
  rw [Bool.not_not]
  exact k'i rfl
 ·-- kind 1
  rw [show R = (true && ((temp == 0) && ((!mono) && (true && (his.isEmpty && (ehs.isEmpty && sus.isEmpty)))))) from by rw [← hR]; cases nbs.isEmpty <;> cases his.isEmpty <;> cases ehs.isEmpty <;> cases sus.isEmpty <;> cases (temp == 0) <;> cases mono <;> rfl]
  refine l_bw Tryz.func194 0 [] ?_
  rw [q2, q3, q4]
  refine k'1 (k'g.buildObj (es := [.bool his.isEmpty, .bool ehs.isEmpty, .bool sus.isEmpty]) rfl rfl rfl rfl rfl rfl (by intro x hx; simp at hx; rcases hx with rfl | rfl | rfl <;> rfl) rfl (by simp) (by decide)) rfl rfl ?_
  refine k'1 (k'g.moveSlo (.inr rfl) rfl) rfl rfl ?_
  refine Y ?_
  cases c_4 : (temp == 0)
  ·exact Z
  refine Y ?_
  cases c_6 : (!mono)
  ·exact Z
  refine Y ?_
  refine k'1j (k'g.freezeSl (ds := [.bool his.isEmpty, .bool ehs.isEmpty, .bool sus.isEmpty]) (.inl rfl) rfl rfl rfl rfl (by intro x hx; simp at hx; rcases hx with rfl | rfl | rfl <;> rfl)) rfl rfl rfl rfl ?_
  refine Y ?_
  refine k'23 [] (k'1h B his.isEmpty ehs.isEmpty sus.isEmpty) rfl rfl rfl rfl rfl ?_
  rw [Bool.not_not]
  exact k'i rfl
 ·-- kind 2
  rw [show R = (true && (true && (true && (true && (his.isEmpty && (ehs.isEmpty && sus.isEmpty)))))) from by rw [← hR]; cases nbs.isEmpty <;> cases his.isEmpty <;> cases ehs.isEmpty <;> cases sus.isEmpty <;> cases (temp == 0) <;> cases mono <;> rfl]
  refine l_bw Tryz.func194 0 [] ?_
  rw [q2, q3, q4]
  refine k'1 (k'g.buildObj (es := [.bool his.isEmpty, .bool ehs.isEmpty, .bool sus.isEmpty]) rfl rfl rfl rfl rfl rfl (by intro x hx; simp at hx; rcases hx with rfl | rfl | rfl <;> rfl) rfl (by simp) (by decide)) rfl rfl ?_
  refine k'1 (k'g.moveSlo (.inr rfl) rfl) rfl rfl ?_
  refine Y ?_
  refine k'1j (k'g.freezeSl (ds := [.bool his.isEmpty, .bool ehs.isEmpty, .bool sus.isEmpty]) (.inl rfl) rfl rfl rfl rfl (by intro x hx; simp at hx; rcases hx with rfl | rfl | rfl <;> rfl)) rfl rfl rfl rfl ?_
  refine Y ?_
  refine k'23 [] (k'1h B his.isEmpty ehs.isEmpty sus.isEmpty) rfl rfl rfl rfl rfl ?_
  rw [Bool.not_not]
  exact k'i rfl
 ·-- kind 3
  rw [show R = (nbs.isEmpty && (true && ((!mono) && (true && (true && (ehs.isEmpty && sus.isEmpty)))))) from by rw [← hR]; cases nbs.isEmpty <;> cases his.isEmpty <;> cases ehs.isEmpty <;> cases sus.isEmpty <;> cases (temp == 0) <;> cases mono <;> rfl]
  refine l_bw Tryz.func194 0 [] ?_
  rw [q2, q3, q4]
  refine k'1 (k'g.buildObj (es := [.bool his.isEmpty, .bool ehs.isEmpty, .bool sus.isEmpty]) rfl rfl rfl rfl rfl rfl (by intro x hx; simp at hx; rcases hx with rfl | rfl | rfl <;> rfl) rfl (by simp) (by decide)) rfl rfl ?_
  refine k'1 (k'g.moveSlo (.inr rfl) rfl) rfl rfl ?_
  refine Y ?_
  refine k'1 (k'g.moveSlo (.inl rfl) rfl) rfl rfl ?_
  refine Y ?_
  refine k'1 (k'g.sloAddr (k := .i64) (m := 0) rfl rfl rfl rfl rfl rfl rfl (by decide) (by decide)) rfl rfl ?_
  refine Y ?_
  rw [q1]
  cases c_4 : nbs.isEmpty
  ·exact Z
  refine Y ?_
  cases c_6 : (!mono)
  ·exact Z
  refine Y ?_
  refine k'1j (k'g.freezeSl (ds := [.bool true, .bool ehs.isEmpty, .bool sus.isEmpty]) (.inl rfl) rfl rfl rfl rfl (by intro x hx; simp at hx; rcases hx with rfl | rfl | rfl <;> rfl)) rfl rfl rfl rfl ?_
  refine Y ?_
  refine k'23 [] (k'1h B true ehs.isEmpty sus.isEmpty) rfl rfl rfl rfl rfl ?_
  rw [Bool.not_not]
  exact k'i rfl
 ·-- kind 4
  rw [show R = (nbs.isEmpty && (true && ((!mono) && (true && (his.isEmpty && (true && sus.isEmpty)))))) from by rw [← hR]; cases nbs.isEmpty <;> cases his.isEmpty <;> cases ehs.isEmpty <;> cases sus.isEmpty <;> cases (temp == 0) <;> cases mono <;> rfl]
  refine l_bw Tryz.func194 0 [] ?_
  rw [q2, q3, q4]
  refine k'1 (k'g.buildObj (es := [.bool his.isEmpty, .bool ehs.isEmpty, .bool sus.isEmpty]) rfl rfl rfl rfl rfl rfl (by intro x hx; simp at hx; rcases hx with rfl | rfl | rfl <;> rfl) rfl (by simp) (by decide)) rfl rfl ?_
  refine k'1 (k'g.moveSlo (.inr rfl) rfl) rfl rfl ?_
  refine Y ?_
  refine k'1 (k'g.moveSlo (.inl rfl) rfl) rfl rfl ?_
  refine Y ?_
  refine k'1 (k'g.sloAddr (k := .i64) (m := 1) rfl rfl rfl rfl rfl rfl rfl (by decide) (by decide)) rfl rfl ?_
  refine Y ?_
  rw [q1]
  cases c_4 : nbs.isEmpty
  ·exact Z
  refine Y ?_
  cases c_6 : (!mono)
  ·exact Z
  refine Y ?_
  refine k'1j (k'g.freezeSl (ds := [.bool his.isEmpty, .bool true, .bool sus.isEmpty]) (.inl rfl) rfl rfl rfl rfl (by intro x hx; simp at hx; rcases hx with rfl | rfl | rfl <;> rfl)) rfl rfl rfl rfl ?_
  refine Y ?_
  refine k'23 [] (k'1h B his.isEmpty true sus.isEmpty) rfl rfl rfl rfl rfl ?_
  rw [Bool.not_not]
  exact k'i rfl
 ·-- kind 5
  rw [show R = (nbs.isEmpty && ((temp == 0) && ((!mono) && (true && (his.isEmpty && (ehs.isEmpty && true)))))) from by rw [← hR]; cases nbs.isEmpty <;> cases his.isEmpty <;> cases ehs.isEmpty <;> cases sus.isEmpty <;> cases (temp == 0) <;> cases mono <;> rfl]
  refine l_bw Tryz.func194 0 [] ?_
  rw [q2, q3, q4]
  refine k'1 (k'g.buildObj (es := [.bool his.isEmpty, .bool ehs.isEmpty, .bool sus.isEmpty]) rfl rfl rfl rfl rfl rfl (by intro x hx; simp at hx; rcases hx with rfl | rfl | rfl <;> rfl) rfl (by simp) (by decide)) rfl rfl ?_
  refine k'1 (k'g.moveSlo (.inr rfl) rfl) rfl rfl ?_
  refine Y ?_
  refine k'1 (k'g.moveSlo (.inl rfl) rfl) rfl rfl ?_
  refine Y ?_
  refine k'1 (k'g.sloAddr (k := .i64) (m := 2) rfl rfl rfl rfl rfl rfl rfl (by decide) (by decide)) rfl rfl ?_
  refine Y ?_
  rw [q1]
  cases c_4 : nbs.isEmpty
  ·exact Z
  refine Y ?_
  cases c_6 : (temp == 0)
  ·exact Z
  refine Y ?_
  cases c_8 : (!mono)
  ·exact Z
  refine Y ?_
  refine k'1j (k'g.freezeSl (ds := [.bool his.isEmpty, .bool ehs.isEmpty, .bool true]) (.inl rfl) rfl rfl rfl rfl (by intro x hx; simp at hx; rcases hx with rfl | rfl | rfl <;> rfl)) rfl rfl rfl rfl ?_
  refine Y ?_
  refine k'23 [] (k'1h B his.isEmpty ehs.isEmpty true) rfl rfl rfl rfl rfl ?_
  rw [Bool.not_not]
  exact k'i rfl
