/- Metric: what they are, their bytes, what may be, what is read. -/
import Derived.Test.YtnaojdjhjkendaaGreatDoorMI
import Derived.Test.YtnaojdjhjkendaaGreatDoorSM
import Derived.Test.YtnaojdjhjkendaaGreatDoorHP
import Derived.Test.YtnaojdjhjkendaaGreatDoorQP
set_option linter.unusedSimpArgs false
set_option linter.unusedVariables false
set_option maxRecDepth 100000
namespace Go.Proofs.YtnaojdjhjkendaaGreatDoor
open Go Go.Abs
variable (B : Fr)
section
structure Me where
 name : List UInt8
 desc : List UInt8
 unit : List UInt8
 kind : Int
 dat : In
 mets : List Kv
 u : List UInt8
def noMe : Me := ⟨[], [], [], 0, noIn, [], []⟩
def Me.hb (x : Me) : List UInt8 := txV 1 x.name ++ txV 2 x.desc ++ txV 3 x.unit ++ onV x.kind x.dat ++ psV 12 (Kv.mars x.mets)
def Me.hF (x : Me) : List Fld := txF 1 x.name ++ txF 2 x.desc ++ txF 3 x.unit ++ onF x.kind x.dat ++ psF 12 (Kv.mars x.mets)
def Me.mar (x : Me) : List UInt8 := x.hb ++ x.u
def tbM (n k : Nat) : Bool := k == 2 && ((decide (1 ≤ n) && decide (n ≤ 3)) || (n == 12 || decide (0 < k'3m n)))
theorem tbM_on : ∀ n, onNs.contains n = true → tbM n 2 = true := by
 intro n h
 have : n = 5 ∨ n = 7 ∨ n = 9 ∨ n = 10 ∨ n = 11 := by simpa [onNs] using h
 rcases this with rfl | rfl | rfl | rfl | rfl <;> rfl
def Me.wf (x : Me) : Prop := x.dat.wf ∧ (∀ k ∈ x.mets, k.wf)
def Me.sz (x : Me) : Nat := 300 + x.name.length + x.desc.length + x.unit.length + x.dat.sz + Kv.szs x.mets + x.u.length
def Me.may (x : Me) (d : Int) : Bool := decide (0 ≤ d) && mayOn x.kind x.dat (d - 1) && txt x.name && txt x.desc && txt x.unit && (x.mets.all fun k => k.may (d - 1)) && restB tbM x.u d
theorem Me.hb_len (x : Me) : x.mar.length + 20 ≤ x.sz := by
 have q0 := txV_len 1 x.name
 have q1 := txV_len 2 x.desc
 have q2 := txV_len 3 x.unit
 have q3 := onV_len x.kind x.dat
 have q4 := Kv.marsP_len 12 x.mets
 unfold Me.mar Me.hb Me.sz
 simp only [List.length_append]
 omega
theorem Me.mar_len (x : Me) : x.mar.length + 20 ≤ x.sz := Me.hb_len x
theorem Me.mars_lt {l : List Me} (h : (l.map Me.sz).sum < big) : ∀ s ∈ l.map Me.mar, s.length < 2 ^ 64 := fun s hs => by
 obtain ⟨k, hk, rfl⟩ := List.mem_map.1 hs
 have h1 := Me.mar_len k; have h2 := k'3b (sz := Me.sz) hk
 unfold big at h; omega
theorem Me.all {x : Me} (h1 : x.sz < big) (h2 : x.wf) (d : Int) : all x.hb d = .ok x.hF := by
 unfold Me.sz big at h1
 obtain ⟨w0, w1⟩ := h2
 exact k'9 (k'9 (k'9 (k'9 (all_tx (by omega) (by omega) d (by omega)) (all_tx (by omega) (by omega) d (by omega))) (all_tx (by omega) (by omega) d (by omega))) (all_on x.kind x.dat d (by unfold big; omega))) (k'4k (by omega) (by omega) d (Kv.mars_lt (by unfold big; omega)))
theorem Me.inn (x : Me) : inT tbM x.hF = true := by
 unfold Me.hF
 simp only [inT_app, Bool.and_eq_true]
 exact ⟨⟨⟨⟨in_tx 1 x.name rfl, in_tx 2 x.desc rfl⟩, in_tx 3 x.unit rfl⟩, in_on x.kind x.dat tbM_on⟩, in_ps 12 _ rfl⟩
def k'44 (d : Int) (l : List Fld) : Option (List UInt8 → Me) :=
 match k'1p 1 l with
 | none => none
 | some name =>
 match k'1p 2 l with
 | none => none
 | some desc =>
 match k'1p 3 l with
 | none => none
 | some unit =>
 match onO d l with
 | none => none
 | some data =>
 match k'7 (fun s => okK s (d - 1)) 12 l with
 | none => none
 | some mets =>
 some fun u => ⟨name, desc, unit, data.1, data.2, mets, u⟩
def okMe (s : List UInt8) (d : Int) : Option Me := apO (okG tbM k'44 s d)
theorem Me.tell {x : Me} (hwf : x.wf) (h_name : txt x.name = true) (h_desc : txt x.desc = true) (h_unit : txt x.unit = true) (d : Int) : k'44 d x.hF = (
 match onS x.kind x.dat d with
 | none => none
 | some data =>
 match mapO (fun s => okK s (d - 1)) (Kv.mars x.mets) with
 | none => none
 | some mets =>
 some fun u => ⟨x.name, x.desc, x.unit, data.1, data.2, mets, u⟩) := by
 obtain ⟨w0, w1⟩ := hwf
 have sname : sel 1 x.hF = txF 1 x.name := by unfold Me.hF; simp [k'i, k'17, k'15, k'16, k'13, k'11, k'46 1 _ _ rfl, k'46 2 _ _ rfl, k'46 3 _ _ rfl, k'46 12 _ _ rfl]
 have tname : k'1p 1 x.hF = some x.name := text_of sname h_name
 have sdesc : sel 2 x.hF = txF 2 x.desc := by unfold Me.hF; simp [k'i, k'17, k'15, k'16, k'13, k'11, k'46 1 _ _ rfl, k'46 2 _ _ rfl, k'46 3 _ _ rfl, k'46 12 _ _ rfl]
 have tdesc : k'1p 2 x.hF = some x.desc := text_of sdesc h_desc
 have sunit : sel 3 x.hF = txF 3 x.unit := by unfold Me.hF; simp [k'i, k'17, k'15, k'16, k'13, k'11, k'46 1 _ _ rfl, k'46 2 _ _ rfl, k'46 3 _ _ rfl, k'46 12 _ _ rfl]
 have tunit : k'1p 3 x.hF = some x.unit := text_of sunit h_unit
 have sdata : selN onNs x.hF = onF x.kind x.dat := by unfold Me.hF; simp [selN_app, selN_fx, selN_vr, selN_op, selN_tx, selN_ps, selN_on, show (1 : Nat) ∉ onNs by decide, show (2 : Nat) ∉ onNs by decide, show (3 : Nat) ∉ onNs by decide, show (12 : Nat) ∉ onNs by decide]
 have tdata : ∀ e, onO e x.hF = onS x.kind x.dat e := fun e => onO_sel e sdata
 have smets : sel 12 x.hF = psF 12 (Kv.mars x.mets) := by unfold Me.hF; simp [k'i, k'17, k'15, k'16, k'13, k'11, k'46 1 _ _ rfl, k'46 2 _ _ rfl, k'46 3 _ _ rfl, k'46 12 _ _ rfl]
 have tmets : ∀ {α : Type} (ok : List UInt8 → Option α), k'7 ok 12 x.hF = mapO ok (Kv.mars x.mets) := fun ok => k'2v ok smets
 unfold k'44
 simp only [tname, tdesc, tunit, tdata, tmets]
theorem Me_told : Told okMe Me.may Me.wf Me.sz 1800 := by
 intro d s x h
 obtain ⟨f, u, h1, rfl⟩ := k'2z h
 obtain ⟨l, -, h2, -, h4, hd, hf, hw⟩ := k'3e h1
 dsimp only at h2 h4 hw
 unfold k'44 at h2
 split at h2
 ·simp at h2
 rename_i name g_name
 split at h2
 ·simp at h2
 rename_i desc g_desc
 split at h2
 ·simp at h2
 rename_i unit g_unit
 split at h2
 ·simp at h2
 rename_i data g_data
 split at h2
 ·simp at h2
 rename_i mets g_mets
 injection h2 with h2
 subst h2
 obtain ⟨p_mets, q_mets, r_mets⟩ := Kv_told.parts hf g_mets
 obtain ⟨p_name, l_name⟩ := text_told hf g_name
 obtain ⟨p_desc, l_desc⟩ := text_told hf g_desc
 obtain ⟨p_unit, l_unit⟩ := text_told hf g_unit
 obtain ⟨p_data, q_data, r_data⟩ := on_told hf g_data
 refine ⟨?_, ⟨q_data, q_mets⟩, ?_⟩
 ·unfold Me.may
  simp only [Bool.and_eq_true]
  exact ⟨⟨⟨⟨⟨⟨decide_eq_true hd, p_data⟩, p_name⟩, p_desc⟩, p_unit⟩, p_mets⟩, h4⟩
 ·unfold Me.sz
  simp only [Kv.szs_sum]
  omega
def Me.eq (x y : Me) : Bool := x.name == y.name && x.desc == y.desc && x.unit == y.unit && x.kind == y.kind && x.dat.eq y.dat && Kv.eqs x.mets y.mets && x.u == y.u
def Me.eqs : List Me → List Me → Bool
 | [], [] => true
 | v :: l, w :: r => v.eq w && Me.eqs l r
 | [], _ :: _ => false
 | _ :: _, [] => false
theorem Me.eq_self (x : Me) : x.eq x = true := by unfold Me.eq; simp [Kv.eqs_self, In.eq_self]
theorem Me.eqs_self : ∀ l : List Me, Me.eqs l l = true
 | [] => rfl
 | v :: l => by unfold Me.eqs; simp [Me.eq_self v, Me.eqs_self l]
theorem Me.eqs_by (a b : List Me) : Me.eqs a b = (a.length == b.length && (List.range a.length).all (byI Me.eq a b)) :=
 k'4d Me.eq Me.eqs rfl (fun _ _ _ _ => rfl) (fun _ _ => rfl) (fun _ _ => rfl) a b
end
section
theorem k'q (k : Int) : k'5 (cx B) 21 [.d (.int .i64 k)] [] (iT (numK k)) [] := by
 refine l_bw Tryz.func21 0 [] ?_
 cases h1 : (k == 1) with
 | true =>
  have e := eq_of_beq h1
  subst e
  exact O
 | false =>
 have e1 := ne_of_beq_false h1
 refine Z ?_
 cases h2 : (k == 2) with
 | true =>
  have e := eq_of_beq h2
  subst e
  exact O
 | false =>
 have e2 := ne_of_beq_false h2
 refine Z ?_
 cases h3 : (k == 3) with
 | true =>
  have e := eq_of_beq h3
  subst e
  exact O
 | false =>
 have e3 := ne_of_beq_false h3
 refine Z ?_
 cases h4 : (k == 4) with
 | true =>
  have e := eq_of_beq h4
  subst e
  exact O
 | false =>
 have e4 := ne_of_beq_false h4
 refine Z ?_
 cases h5 : (k == 5) with
 | true =>
  have e := eq_of_beq h5
  subst e
  exact O
 | false =>
 have e5 := ne_of_beq_false h5
 refine Z ?_
 rw [show numK k = 0 by unfold numK; rw [if_neg e1, if_neg e2, if_neg e3, if_neg e4, if_neg e5]]
 exact k'j rfl
theorem numK_inj {k : Int} (h1 : 1 ≤ k) (h2 : k ≤ 5) : k'3m (numK k) = k := by
 have : k = 1 ∨ k = 2 ∨ k = 3 ∨ k = 4 ∨ k = 5 := by omega
 rcases this with rfl | rfl | rfl | rfl | rfl <;> rfl
theorem kindOf_calls (n : Nat) : k'5 (cx B) 24 [iT n] [] (.d (.int .i64 (k'3m n))) [] := by
 refine l_bw Tryz.func24 0 [] ?_
 refine k'y (fun k : Nat => 6 - k) (fun k => [(0, iT n), (3, iT k)]) (fun _ => []) (fun k => 1 ≤ k ∧ k ≤ 6 ∧ ∀ j : Nat, 1 ≤ j → j < k → numK j ≠ n) 1 ⟨by omega, by omega, fun j h1 h2 => by omega⟩ ⟨rfl, rfl, trivial⟩ rfl 0 rfl (fun _ => rfl) (fun _ => rfl) (fun _ => rfl) ?_
 rintro k ⟨k1, k2, k3⟩
 refine Z ?_
 by_cases hlt : k ≤ 5
 ·rw [show decide ((k : Int) ≤ 5) = true from decide_eq_true (by omega)]
  have hc := k'q B k
  refine Z ?_
  refine l_cw [] (hc) rfl rfl rfl ?_
  rw [ibeq]
  cases he : (numK k == n)
  rotate_left
  ·have he := eq_of_beq he
   rw [← he, numK_inj (by omega) (by omega)]
   exact O
  have he := ne_of_beq_false he
  refine Z ?_
  rw [wS k (by omega)]
  exact ⟨k + 1, by omega, ⟨by omega, by omega, fun j h1 h2 => by
   rcases Nat.lt_or_ge j k with g | g
   ·exact k3 j h1 g
   ·obtain rfl : j = k := by omega
    exact he⟩, ⟨rfl, rfl, trivial⟩, rfl, k'g rfl⟩
 ·rw [show decide ((k : Int) ≤ 5) = false from decide_eq_false (by omega)]
  have e1 : 5 ≠ n := k3 1 (by omega) (by omega)
  have e2 : 7 ≠ n := k3 2 (by omega) (by omega)
  have e3 : 9 ≠ n := k3 3 (by omega) (by omega)
  have e4 : 10 ≠ n := k3 4 (by omega) (by omega)
  have e5 : 11 ≠ n := k3 5 (by omega) (by omega)
  rw [show k'3m n = 0 by unfold k'3m; rw [if_neg (Ne.symm e1), if_neg (Ne.symm e2), if_neg (Ne.symm e3), if_neg (Ne.symm e4), if_neg (Ne.symm e5)]]
  exact O
theorem tbM_calls (n k : Nat) : k'5 (cx B) 19 [iT n, iT k] [] (.d (.bool (tbM n k))) [] := by
 have h := kindOf_calls B n
 have hR : tbM n k = ((k : Int) == 2 && ((decide ((n : Int) ≥ 1) && decide ((n : Int) ≤ 3)) || ((n : Int) == 12 || decide (k'3m n > 0)))) := by
  unfold tbM
  rw [show ((k : Int) == 2) = (k == 2) from ibeq k 2, show ((n : Int) == 12) = (n == 12) from ibeq n 12, show decide ((n : Int) ≥ 1) = decide (1 ≤ n) by congr 1; apply propext; omega, show decide ((n : Int) ≤ 3) = decide (n ≤ 3) by congr 1; apply propext; omega]
 rw [hR]
 clear hR
 refine l_bw Tryz.func19 0 [] ?_
 cases e0 : ((k : Int) == 2)
 ·exact O
 refine Z ?_
 cases e1 : decide ((n : Int) ≥ 1)
 ·refine Z ?_
  cases e3 : ((n : Int) == 12)
  rotate_left
  ·exact O
  refine Z ?_
  refine k'2x [] (h) rfl rfl rfl rfl rfl ?_
  exact O
 refine Z ?_
 cases e2 : decide ((n : Int) ≤ 3)
 rotate_left
 ·exact O
 refine Z ?_
 cases e3 : ((n : Int) == 12)
 rotate_left
 ·exact O
 refine Z ?_
 refine k'2x [] (h) rfl rfl rfl rfl rfl ?_
 exact O
theorem inner_calls (k : Int) : k'5 (cx B) 80 [.d (.int .i64 k)] [] (.d (.fn 165 [.box [.int .i64 k]])) [] := by
 refine l_b0 Tryz.func80 0 [] ?_
 exact O
theorem innerT (k : Int) : TblC B 165 [.box [.int .i64 k]] (tbI k) := fun n kd => by
 show k'5 (cx B) 165 [iT n, iT kd, .d (.box [.int .i64 k])] [] (.d (.bool (tbI k n kd))) []
 cases h3 : ((n : Int) == 3)
 rotate_left
 ·have e : n = 3 := by have := eq_of_beq h3; omega
  subst e
  cases hk : (k != 2)
  rotate_left
  ·have hk' : (k == 2) = false := by rw [← Bool.not_inj_iff]; simpa [bne] using hk
   rw [show tbI k 3 kd = (kd == 0 && k == 2) from rfl, hk', Bool.and_false]
   refine l_bw Tryz.func165 0 [] ?_
   rw [hk]
   exact O
  have hk' : k = 2 := by simpa [bne] using hk
  subst hk'
  rw [show tbI 2 3 kd = ((kd : Int) == 0) by rw [show ((kd : Int) == 0) = (kd == 0) from ibeq kd 0]; show (kd == 0 && true) = _; rw [Bool.and_true]]
  refine l_bw Tryz.func165 0 [] ?_
  cases e0 : ((kd : Int) == 0)
  rotate_left
  ·exact O
  exact O
 cases h2 : ((n : Int) == 2)
 rotate_left
 ·have e : n = 2 := by have := eq_of_beq h2; omega
  subst e
  rw [show tbI k 2 kd = ((kd : Int) == 0 && (decide (k ≥ 2) && decide (k ≤ 4))) by rw [show ((kd : Int) == 0) = (kd == 0) from ibeq kd 0]; rfl]
  refine l_bw Tryz.func165 0 [] ?_
  cases e0 : ((kd : Int) == 0)
  ·exact O
  refine Z ?_
  cases e1 : decide (k ≥ 2)
  ·exact O
  exact O
 have n3 : n ≠ 3 := by have := ne_of_beq_false h3; omega
 have n2 : n ≠ 2 := by have := ne_of_beq_false h2; omega
 cases h1 : ((n : Int) == 1)
 rotate_left
 ·have e : n = 1 := by have := eq_of_beq h1; omega
  subst e
  rw [show tbI k 1 kd = ((kd : Int) == 2) from (ibeq kd 2).symm]
  refine l_b0 Tryz.func165 0 [] ?_
  exact O
 have n1 : n ≠ 1 := by have := ne_of_beq_false h1; omega
 rw [show tbI k n kd = false by unfold tbI; simp [n1, n2, n3]]
 refine l_bw Tryz.func165 0 [] ?_
 rw [h3]
 refine Z ?_
 rw [h2]
 refine Z ?_
 rw [h1]
 exact O
/-! Metrics as data. -/
def Me.d (x : Me) : D := .agg [.str x.name, .str x.desc, .str x.unit, .int .i64 x.kind, .int .i32 x.dat.temp, .bool x.dat.mono, slD (x.dat.nbs.map Nb.d), slD (x.dat.his.map Hi.d), slD (x.dat.ehs.map Eh.d), slD (x.dat.sus.map Su.d), slD (Kv.ds x.mets), .str x.dat.u, .str x.u]
def Me.R (x : Me) (a : D) : Prop := ∃ (z_nbs : Bool) (l_nbs : List D) (z_his : Bool) (l_his : List D) (z_ehs : Bool) (l_ehs : List D) (z_sus : Bool) (l_sus : List D) (z_mets : Bool) (l_mets : List D), a = .agg [.str x.name, .str x.desc, .str x.unit, .int .i64 x.kind, .int .i32 x.dat.temp, .bool x.dat.mono, .sl z_nbs l_nbs, .sl z_his l_his, .sl z_ehs l_ehs, .sl z_sus l_sus, .sl z_mets l_mets, .str x.dat.u, .str x.u] ∧ RsOf Nb.R x.dat.nbs l_nbs ∧ RsOf Hi.R x.dat.his l_his ∧ RsOf Eh.R x.dat.ehs l_ehs ∧ RsOf Su.R x.dat.sus l_sus ∧ Kv.Rs x.mets l_mets
def MeSh (x : D) : Prop := ∃ (a0 a1 a2 : List UInt8) (a3 a4 : Int) (a5 a6 : Bool) (a7 : List D) (a8 : Bool) (a9 : List D) (a10 : Bool) (a11 : List D) (a12 : Bool) (a13 : List D) (a14 : Bool) (a15 : List D) (a16 a17 : List UInt8), x = .agg [.str a0, .str a1, .str a2, .int .i64 a3, .int .i32 a4, .bool a5, .sl a6 a7, .sl a8 a9, .sl a10 a11, .sl a12 a13, .sl a14 a15, .str a16, .str a17]
theorem Me.R_sh {x : Me} {a : D} (h : x.R a) : MeSh a := by
 obtain ⟨z_nbs, l_nbs, z_his, l_his, z_ehs, l_ehs, z_sus, l_sus, z_mets, l_mets, h, -⟩ := h
 exact ⟨_, _, _, _, _, _, _, _, _, _, _, _, _, _, _, _, _, _, h⟩
theorem Me.d_R (x : Me) : x.R x.d := ⟨_, _, _, _, _, _, _, _, _, _, rfl, RsOf.map Nb.d_R _, RsOf.map Hi.d_R _, RsOf.map Eh.d_R _, RsOf.map Su.d_R _, Kv.ds_R _⟩
theorem Me.Rs_sh {l : List Me} {xs : List D} (h : RsOf Me.R l xs) : ∀ x ∈ xs, MeSh x := fun x hx => by
 obtain ⟨v, -, r⟩ := h.mem hx
 exact Me.R_sh r
theorem Me.R_no : noMe.R noMe.d := Me.d_R _
end
section
def inTb (k : Int) : List Nat := if k = 2 then [10, 16, 24] else if k = 3 ∨ k = 4 then [10, 16] else [10]
theorem rInner_calls (k : Int) (h1 : 1 ≤ k) (h2 : k ≤ 5) : k'5 (cx B) 49 [.d (.int .i64 k)] [] (.d (.sl false ((inTb k).map iD))) [] := by
 have hk : k = 1 ∨ k = 2 ∨ k = 3 ∨ k = 4 ∨ k = 5 := by omega
 rcases hk with rfl | rfl | rfl | rfl | rfl
 ·rw [show inTb 1 = [10] from rfl]
  refine l_bw Tryz.func49 0 [] ?_
  (try refine k'h rfl ?_)
  refine k'3 (.buildSlice (es := [10].map iD) rfl rfl rfl rfl rfl rfl (by intro x hx; simp [iD] at hx; subst hx; rfl) (by decide) (by decide) (by decide)) rfl rfl ?_
  exact O
 ·rw [show inTb 2 = [10, 16, 24] from rfl]
  refine l_bw Tryz.func49 0 [] ?_
  (try refine k'h rfl ?_)
  refine k'3 (.buildSlice (es := [10, 16, 24].map iD) rfl rfl rfl rfl rfl rfl (by intro x hx; simp [iD] at hx; rcases hx with rfl | rfl | rfl <;> rfl) (by decide) (by decide) (by decide)) rfl rfl ?_
  exact O
 ·rw [show inTb 3 = [10, 16] from rfl]
  refine l_bw Tryz.func49 0 [] ?_
  (try refine k'h rfl ?_)
  refine k'3 (.buildSlice (es := [10, 16].map iD) rfl rfl rfl rfl rfl rfl (by intro x hx; simp [iD] at hx; rcases hx with rfl | rfl <;> rfl) (by decide) (by decide) (by decide)) rfl rfl ?_
  exact O
 ·rw [show inTb 4 = [10, 16] from rfl]
  refine l_bw Tryz.func49 0 [] ?_
  (try refine k'h rfl ?_)
  refine k'3 (.buildSlice (es := [10, 16].map iD) rfl rfl rfl rfl rfl rfl (by intro x hx; simp [iD] at hx; rcases hx with rfl | rfl <;> rfl) (by decide) (by decide) (by decide)) rfl rfl ?_
  exact O
 ·rw [show inTb 5 = [10] from rfl]
  refine l_bw Tryz.func49 0 [] ?_
  (try refine k'h rfl ?_)
  refine k'3 (.buildSlice (es := [10].map iD) rfl rfl rfl rfl rfl rfl (by intro x hx; simp [iD] at hx; subst hx; rfl) (by decide) (by decide) (by decide)) rfl rfl ?_
  exact O
theorem tb_in {k : Int} (h1 : 1 ≤ k) (h2 : k ≤ 5) (n kd : Nat) (hk : kd < 8) : tkB (inTb k) n kd = tbI k n kd := by
 have h : k = 1 ∨ k = 2 ∨ k = 3 ∨ k = 4 ∨ k = 5 := by omega
 by_cases hn : n < 4
 ·rcases h with rfl | rfl | rfl | rfl | rfl
  ·exact (by decide : ∀ n < 4, ∀ k < 8, tkB (inTb 1) n k = tbI 1 n k) n hn kd hk
  ·exact (by decide : ∀ n < 4, ∀ k < 8, tkB (inTb 2) n k = tbI 2 n k) n hn kd hk
  ·exact (by decide : ∀ n < 4, ∀ k < 8, tkB (inTb 3) n k = tbI 3 n k) n hn kd hk
  ·exact (by decide : ∀ n < 4, ∀ k < 8, tkB (inTb 4) n k = tbI 4 n k) n hn kd hk
  ·exact (by decide : ∀ n < 4, ∀ k < 8, tkB (inTb 5) n k = tbI 5 n k) n hn kd hk
 ·have e : tbI k n kd = false := by
   unfold tbI
   rw [show (n == 1) = false by simp; omega, show (n == 2) = false by simp; omega, show (n == 3) = false by simp; omega]; rfl
  rw [e]
  rcases h with rfl | rfl | rfl | rfl | rfl
  ·show tkB [10] n kd = false; unfold tkB; simp; omega
  ·show tkB [10, 16, 24] n kd = false; unfold tkB; simp; omega
  ·show tkB [10, 16] n kd = false; unfold tkB; simp; omega
  ·show tkB [10, 16] n kd = false; unfold tkB; simp; omega
  ·show tkB [10] n kd = false; unfold tkB; simp; omega
theorem tabMe_calls : k'5 (cx B) 30 [] [] (.d (.sl false ([10, 18, 26, 42, 58, 74, 82, 90, 98].map iD))) [] := by
 refine l_bw Tryz.func30 0 [] ?_
 (try refine k'h rfl ?_)
 refine k'3 (.buildSlice (es := [10, 18, 26, 42, 58, 74, 82, 90, 98].map iD) rfl rfl rfl rfl rfl rfl (by intro x hx; simp [iD] at hx; rcases hx with rfl | rfl | rfl | rfl | rfl | rfl | rfl | rfl | rfl <;> rfl) (by decide) (by decide) (by decide)) rfl rfl ?_
 exact O
theorem tbM_big {n k : Nat} (hn : 13 ≤ n) : tbM n k = false := by
 unfold tbM k'3m
 rw [if_neg (by omega), if_neg (by omega), if_neg (by omega), if_neg (by omega), if_neg (by omega)]
 simp; omega
theorem tk_Me (n k : Nat) (hk : k < 8) : tkB [10, 18, 26, 42, 58, 74, 82, 90, 98] n k = tbM n k := by
 by_cases hn : n < 13
 ·exact (by decide : ∀ n < 13, ∀ k < 8, tkB [10, 18, 26, 42, 58, 74, 82, 90, 98] n k = tbM n k) n hn k hk
 ·rw [show tkB [10, 18, 26, 42, 58, 74, 82, 90, 98] n k = false by unfold tkB; simp; omega, tbM_big (by omega)]
end
