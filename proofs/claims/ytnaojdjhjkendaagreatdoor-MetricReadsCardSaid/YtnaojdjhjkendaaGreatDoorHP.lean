/- Number: the reference tells if they may be, and their bytes. -/
import Derived.Test.YtnaojdjhjkendaaGreatDoorWF
import Derived.Test.YtnaojdjhjkendaaGreatDoorNR
import Derived.Test.YtnaojdjhjkendaaGreatDoorRS
import Derived.Test.YtnaojdjhjkendaaGreatDoorRR
import Derived.Test.YtnaojdjhjkendaaGreatDoorEL
set_option linter.unusedSimpArgs false
set_option linter.unusedVariables false
set_option maxRecDepth 100000
namespace Go.Proofs.YtnaojdjhjkendaaGreatDoor
open Go Go.Abs
variable (B : Fr)
section
theorem eiE_odd {s : List UInt8} : ∀ (f p : Nat), p ≤ s.length → s.length - p < f → (s.length - p) % 8 ≠ 0 → ∃ e, eiE s f p = .error e
 | 0, p, _, h, _ => by omega
 | f + 1, p, h1, h2, h3 => by
  unfold eiE
  rw [if_pos (by omega)]
  unfold k'36
  by_cases hp : s.length - p < 8
  ·rw [if_pos hp]; exact ⟨_, rfl⟩
  ·rw [if_neg hp]
   obtain ⟨l, hl⟩ := eiE_odd (s := s) f (p + 8) (by omega) (by omega) (by omega)
   dsimp only
   rw [hl]
   exact ⟨_, rfl⟩
theorem fixs_odd {s : List UInt8} (h : s.length % 8 ≠ 0) : ∃ e, fixs s = .error e := eiE_odd _ 0 (by omega) (by omega) (by omega)
def rfxT : Except Er (List Nat) → T
 | .ok l => .tup [.d (slD (l.map uD)), .d (.bool true)]
 | .error e => .tup [.d (.sl true []), .d (.bool false)]
theorem r2Fixeds_calls (s : List UInt8) (hl : s.length < big) : k'5 (cx B) 277 [sT s] [] (rfxT (fixs s)) [] := by
 have hl' := hl
 unfold big at hl'
 refine l_bw Tryz.func277 0 [] ?_
 refine k'3 (.rem (k := .i64) (a := (s.length : Int)) (b := 8) rfl rfl rfl (by decide)) rfl rfl ?_
 refine Z ?_
 by_cases h8 : s.length % 8 = 0
 ·rw [show ((s.length : Int).tmod 8 != 0) = false by rw [bne_eq_false_iff_eq, show (s.length : Int).tmod 8 = ((s.length % 8 : Nat) : Int) from rfl]; omega]
  refine Z ?_
  refine k'y (fun x : Nat × Nat × List Nat => x.2.1) (fun x => [(0, sT s), (4, owT (x.2.2.map uD)), (5, iT x.1)]) (fun _ => [])
   (fun x => x.1 ≤ s.length ∧ s.length - x.1 < x.2.1 ∧ (s.length - x.1) % 8 = 0 ∧ x.2.2.length ≤ x.1 ∧ fixs s = (match eiE s x.2.1 x.1 with | .ok l => .ok (x.2.2 ++ l) | .error e => .error e)) (0, s.length + 1, []) ⟨by omega, by show s.length - 0 < s.length + 1; omega, by show (s.length - 0) % 8 = 0; omega, by simp, ?_⟩ ⟨rfl, rfl, rfl, trivial⟩ rfl 0 rfl (fun _ => rfl) (fun _ => rfl) (fun _ => rfl) ?_
  ·show fixs s = _
   unfold fixs
   dsimp only
   split <;> (rename_i h; rw [h]) <;> rfl
  rintro ⟨p, g, acc⟩ ⟨i1, i2, i5, i3, i4⟩
  dsimp only at i1 i2 i3 i4 i5 ⊢
  cases g with
  | zero => omega
  | succ g =>
  unfold eiE at i4
  refine Z ?_
  by_cases hp : p < s.length
  ·rw [show decide ((p : Int) < s.length) = true from decide_eq_true (by omega)]
   rw [if_pos hp] at i4
   unfold k'36 at i4
   rw [if_neg (by omega)] at i4
   dsimp only at i4
   have hf := k'4i B ((s.drop p).take 8) (by simp; omega)
   have ha : IntKind.i64.wrap (((p : Nat) : Int) + 8) = ((p + 8 : Nat) : Int) := by rw [k'1b (by omega) (by omega)]; omega
   refine adm ?_
   (try refine k'h rfl ?_)
   refine k'3 (.assignOwn (.inr rfl) rfl) rfl rfl ?_
   refine Z ?_
   rw [ha]
   refine k'3 (.sliceStr (s := s) (l := p) (h := p + 8) rfl rfl rfl rfl ⟨.i64, rfl⟩ ⟨.i64, rfl⟩ (by omega) (by omega)) rfl rfl ?_
   rw [show p + 8 - p = 8 by omega]
   generalize leN ((s.drop p).take 8) = n at *
   refine k'8 [] (hf) rfl rfl rfl ?_
   refine k'3 (.buildSlice (es := [uD n]) rfl rfl rfl rfl rfl rfl (by intro x hx; simp at hx; subst hx; rfl) (by simp) (by decide) (by decide)) rfl rfl ?_
   have hm : (acc.map uD).length + [uD n].length ≤ most := by simp [most]; omega
   refine k'3 (.append' rfl rfl rfl rfl ⟨_, _, rfl, rfl, by intro q; simp⟩ rfl rfl rfl rfl rfl (by rw [show [uD n] = [n].map uD from rfl, ← List.map_append]; exact u_fits _) (by decide) rfl hm rfl) rfl rfl ?_
   refine k'3 (.assignOwn (.inl rfl) rfl) rfl rfl ?_
   refine Z ?_
   rw [ha]
   exact ⟨(p + 8, g, acc ++ [n]), Nat.lt_succ_self g, ⟨by show p + 8 ≤ _; omega, by show s.length - (p + 8) < g; omega, by show (s.length - (p + 8)) % 8 = 0; omega, by show (acc ++ [n]).length ≤ p + 8; simp; omega, by rw [i4]; cases eiE s g (p + 8) <;> simp⟩, ⟨rfl, by show T.own _ _ = owT _; rw [List.map_append]; rfl, rfl, trivial⟩, rfl, k'g rfl⟩
  ·rw [show decide ((p : Int) < s.length) = false from decide_eq_false (by omega)]
   rw [if_neg hp] at i4
   dsimp only at i4
   rw [List.append_nil] at i4
   rw [i4]
   refine Z ?_
   (try refine k'h rfl ?_)
   refine k'3 (.moveShare rfl rfl) rfl rfl ?_
   exact O
 ·rw [show ((s.length : Int).tmod 8 != 0) = true by rw [bne_iff_ne, show (s.length : Int).tmod 8 = ((s.length % 8 : Nat) : Int) from rfl]; omega]
  obtain ⟨e, he⟩ := fixs_odd h8
  rw [he]
  exact O
theorem packO_end {rd : List UInt8 → Except Er (List Nat)} {num : Nat} : ∀ {a b : List Fld}, k'p rd num a = none → k'p rd num (a ++ b) = none
 | [], b, h => by simp [k'p] at h
 | c :: a, b, h => by
  rw [List.cons_append]
  unfold k'p at h ⊢
  split at h
  ·rw [if_pos ‹_›]
   split at h
   ·rw [if_pos ‹_›]
    split at h
    ·cases hp : k'p rd num a with
     | none => rw [packO_end hp]; rfl
     | some z => rw [hp] at h; simp at h
    ·rfl
   ·rw [if_neg ‹_›]
    cases hp : k'p rd num a with
    | none => rw [packO_end hp]; rfl
    | some z => rw [hp] at h; simp at h
  ·rw [if_neg ‹_›]; exact packO_end h
theorem packO_cut {rd : List UInt8 → Except Er (List Nat)} {num : Nat} {tb : Nat → Nat → Bool} {l : List Fld} (i : Nat) (h : k'p rd num (k'1 tb (l.take i)) = none) : k'p rd num (k'1 tb l) = none := by
 have e : k'1 tb l = k'1 tb (l.take i) ++ k'1 tb (l.drop i) := by
  unfold k'1; rw [← List.filter_append, List.take_append_drop]
 rw [e]; exact packO_end h
def pkT (b : List Nat) : Option (List Nat) → T
 | some v => .tup [owT ((b ++ v).map uD), .d (.bool true)]
 | none => .tup [owT (b.map uD), .d (.bool false)]
theorem Packed_calls (b : List Nat) (x : Fld) (num : Nat) (hn : x.num = num) (hk : x.kind = 1 ∨ x.kind = 2) (hb : b.length < big) (hx : x.s.length < big) : CallsO (cx B) 196 (b.map uD).isEmpty (b.map uD) [x.d] (pkT b (k'p fixs num [x])) := by
 unfold big at hb
 have h1 := r2Fixeds_calls B x.s hx
 have hl : ∀ l, fixs x.s = .ok l → l.length ≤ x.s.length := fun l h => fixs_len h
 unfold big at hx
 obtain ⟨xn, xk, xv, xs, xr⟩ := x
 dsimp only at *
 have one : ∀ v : List Nat, b.length + v.length ≤ most → ∀ a ∈ b.map uD ++ v.map uD, a.fits 1 = true := fun v _ => by rw [← List.map_append]; exact u_fits _
 refine l_bodyO (X := cx B) (fn := Tryz.f196) Tryz.func196 rfl rfl rfl rfl rfl ?_
 rcases hk with rfl | rfl
 ·have hp : k'p fixs num [⟨xn, 1, xv, xs, xr⟩] = some [xv] := by unfold k'p; rw [if_pos hn, if_neg (show ¬ (1 : Nat) = 2 by decide)]; rfl
  rw [hp]
  refine l_c0 rfl ?_
  refine r_true rfl ?_
  refine adm ?_
  (try refine k'h rfl ?_)
  refine k'3 (.assignOwn (.inr rfl) rfl) rfl rfl ?_
  refine Z ?_
  refine k'3 (.buildSlice (es := [uD xv]) rfl rfl rfl rfl rfl rfl (by intro x hx; simp at hx; subst hx; rfl) (by simp) (by decide) (by decide)) rfl rfl ?_
  have hm : (b.map uD).length + [uD xv].length ≤ most := by simp [most]; omega
  refine k'3 (.append' rfl rfl rfl rfl ⟨_, _, rfl, rfl, by intro q; simp⟩ rfl rfl rfl rfl rfl (by rw [show [uD xv] = [xv].map uD from rfl, ← List.map_append]; exact u_fits _) (by decide) rfl hm rfl) rfl rfl ?_
  refine k'3 (.assignOwn (.inl rfl) rfl) rfl rfl ?_
  refine Z ?_
  exact ⟨trivial, _, _, _, _, _, rfl, rfl, rfl, by unfold pkT owT; dsimp only; rw [List.map_append]; rfl⟩
 ·have hp : k'p fixs num [⟨xn, 2, xv, xs, xr⟩] = (match fixs xs with | .ok a => some (a ++ []) | .error _ => none) := by
   unfold k'p
   rw [if_pos hn, if_pos rfl]
   dsimp only
   cases fixs xs <;> rfl
  rw [hp]
  unfold rfxT at h1
  cases hf : fixs xs with
  | ok v =>
   rw [hf] at h1
   dsimp only at h1 ⊢
   rw [List.append_nil]
   have hv := hl v hf
   refine Z ?_
   refine k'8 [] (h1) rfl rfl rfl ?_
   refine l_o0 rfl ?_
   refine adm ?_
   (try refine k'h rfl ?_)
   refine k'3 (.assignOwn (.inr rfl) rfl) rfl rfl ?_
   refine Z ?_
   have hm : (b.map uD).length + (v.map uD).length ≤ most := by simp [most]; omega
   refine k'3 (.append' rfl rfl rfl rfl ⟨_, _, rfl, rfl, by intro q; simp⟩ rfl rfl rfl rfl rfl (by rw [← List.map_append]; exact u_fits _) (by decide) rfl hm rfl) rfl rfl ?_
   refine k'd (fst := false) 1 rfl rfl rfl ?_
   refine k'3 (.assignOwn (.inl rfl) rfl) rfl rfl ?_
   refine Z ?_
   exact ⟨trivial, _, _, _, _, _, rfl, rfl, rfl, by unfold pkT owT; dsimp only; rw [List.map_append]⟩
  | error e =>
   rw [hf] at h1
   dsimp only at h1 ⊢
   refine Z ?_
   refine k'8 [] (h1) rfl rfl rfl ?_
   refine l_o0 rfl ?_
   refine adm ?_
   (try refine k'h rfl ?_)
   refine k'3 (.assignOwn (.inr rfl) rfl) rfl rfl ?_
   refine Z ?_
   have hm : (b.map uD).length + ([] : List D).length ≤ most := by simp [most]; omega
   refine k'3 (.append' rfl rfl rfl rfl ⟨_, _, rfl, rfl, by intro q; simp⟩ rfl rfl rfl rfl rfl (by rw [List.append_nil]; exact u_fits _) (by decide) rfl hm rfl) rfl rfl ?_
   refine k'd (fst := false) 1 rfl rfl rfl ?_
   refine k'3 (.assignOwn (.inl rfl) rfl) rfl rfl ?_
   refine Z ?_
   exact ⟨trivial, _, _, _, _, _, rfl, rfl, rfl, by unfold pkT owT; dsimp only; rw [List.append_nil]⟩
end
section
structure Hi where
 attrs : List Kv
 start : Nat
 time : Nat
 count : Nat
 sumH : Bool
 sum : Nat
 minH : Bool
 min : Nat
 maxH : Bool
 max : Nat
 counts : List Nat
 bounds : List Nat
 exs : List Em
 flags : Nat
 u : List UInt8
def noHi : Hi := ⟨[], 0, 0, 0, false, 0, false, 0, false, 0, [], [], [], 0, []⟩
def Hi.hb (x : Hi) : List UInt8 := fxV 2 x.start ++ fxV 3 x.time ++ fxV 4 x.count ++ opV 5 x.sumH x.sum ++ pwV 6 x.counts ++ pwV 7 x.bounds ++ psV 8 (x.exs.map Em.mar) ++ psV 9 (Kv.mars x.attrs) ++ vrV 10 x.flags ++ opV 11 x.minH x.min ++ opV 12 x.maxH x.max
def Hi.hF (x : Hi) : List Fld := fxF 2 x.start ++ fxF 3 x.time ++ fxF 4 x.count ++ opF 5 x.sumH x.sum ++ pwF 6 x.counts ++ pwF 7 x.bounds ++ psF 8 (x.exs.map Em.mar) ++ psF 9 (Kv.mars x.attrs) ++ vrF 10 x.flags ++ opF 11 x.minH x.min ++ opF 12 x.maxH x.max
def Hi.mar (x : Hi) : List UInt8 := x.hb ++ x.u
def tbH (n k : Nat) : Bool := bif [6, 7].contains n then (k == 2 || k == 1) else bif [2, 3, 4, 5, 11, 12].contains n then k == 1 else bif [8, 9].contains n then k == 2 else bif [10].contains n then k == 0 else false
theorem tbH_calls (n k : Nat) : k'5 (cx B) 172 [iT n, iT k] [] (.d (.bool (tbH n k))) [] := by
 refine l_bw Tryz.func172 0 [] ?_
 cases h0 : ((n : Int) == 6) with
 | true =>
  have e : n = 6 := by have := eq_of_beq h0; omega
  subst e
  rw [show tbH 6 k = ((k : Int) == 2 || (k : Int) == 1) by rw [show ((k : Int) == 2) = (k == 2) from ibeq k 2, show ((k : Int) == 1) = (k == 1) from ibeq k 1]; rfl]
  refine Z ?_
  cases hk : ((k : Int) == 2)
  rotate_left
  ·exact O
  exact O
 | false =>
 have eh0 : n ≠ 6 := by have := ne_of_beq_false h0; omega
 refine Z ?_
 cases h1 : ((n : Int) == 7) with
 | true =>
  have e : n = 7 := by have := eq_of_beq h1; omega
  subst e
  rw [show tbH 7 k = ((k : Int) == 2 || (k : Int) == 1) by rw [show ((k : Int) == 2) = (k == 2) from ibeq k 2, show ((k : Int) == 1) = (k == 1) from ibeq k 1]; rfl]
  refine Z ?_
  cases hk : ((k : Int) == 2)
  rotate_left
  ·exact O
  exact O
 | false =>
 have eh1 : n ≠ 7 := by have := ne_of_beq_false h1; omega
 refine Z ?_
 cases h2 : ((n : Int) == 2) with
 | true =>
  have e : n = 2 := by have := eq_of_beq h2; omega
  subst e
  rw [show tbH 2 k = ((k : Int) == 1) from (ibeq k 1).symm]
  exact O
 | false =>
 have eh2 : n ≠ 2 := by have := ne_of_beq_false h2; omega
 refine Z ?_
 cases h3 : ((n : Int) == 3) with
 | true =>
  have e : n = 3 := by have := eq_of_beq h3; omega
  subst e
  rw [show tbH 3 k = ((k : Int) == 1) from (ibeq k 1).symm]
  exact O
 | false =>
 have eh3 : n ≠ 3 := by have := ne_of_beq_false h3; omega
 refine Z ?_
 cases h4 : ((n : Int) == 4) with
 | true =>
  have e : n = 4 := by have := eq_of_beq h4; omega
  subst e
  rw [show tbH 4 k = ((k : Int) == 1) from (ibeq k 1).symm]
  exact O
 | false =>
 have eh4 : n ≠ 4 := by have := ne_of_beq_false h4; omega
 refine Z ?_
 cases h5 : ((n : Int) == 5) with
 | true =>
  have e : n = 5 := by have := eq_of_beq h5; omega
  subst e
  rw [show tbH 5 k = ((k : Int) == 1) from (ibeq k 1).symm]
  exact O
 | false =>
 have eh5 : n ≠ 5 := by have := ne_of_beq_false h5; omega
 refine Z ?_
 cases h6 : ((n : Int) == 11) with
 | true =>
  have e : n = 11 := by have := eq_of_beq h6; omega
  subst e
  rw [show tbH 11 k = ((k : Int) == 1) from (ibeq k 1).symm]
  exact O
 | false =>
 have eh6 : n ≠ 11 := by have := ne_of_beq_false h6; omega
 refine Z ?_
 cases h7 : ((n : Int) == 12) with
 | true =>
  have e : n = 12 := by have := eq_of_beq h7; omega
  subst e
  rw [show tbH 12 k = ((k : Int) == 1) from (ibeq k 1).symm]
  exact O
 | false =>
 have eh7 : n ≠ 12 := by have := ne_of_beq_false h7; omega
 refine Z ?_
 cases h8 : ((n : Int) == 8) with
 | true =>
  have e : n = 8 := by have := eq_of_beq h8; omega
  subst e
  rw [show tbH 8 k = ((k : Int) == 2) from (ibeq k 2).symm]
  exact O
 | false =>
 have eh8 : n ≠ 8 := by have := ne_of_beq_false h8; omega
 refine Z ?_
 cases h9 : ((n : Int) == 9) with
 | true =>
  have e : n = 9 := by have := eq_of_beq h9; omega
  subst e
  rw [show tbH 9 k = ((k : Int) == 2) from (ibeq k 2).symm]
  exact O
 | false =>
 have eh9 : n ≠ 9 := by have := ne_of_beq_false h9; omega
 refine Z ?_
 cases h10 : ((n : Int) == 10) with
 | true =>
  have e : n = 10 := by have := eq_of_beq h10; omega
  subst e
  rw [show tbH 10 k = ((k : Int) == 0) from (ibeq k 0).symm]
  exact O
 | false =>
 have eh10 : n ≠ 10 := by have := ne_of_beq_false h10; omega
 refine Z ?_
 rw [show tbH n k = false from by unfold tbH; simp [eh0, eh1, eh2, eh3, eh4, eh5, eh6, eh7, eh8, eh9, eh10]]
 exact k'j rfl
def Hi.wf (x : Hi) : Prop := (∀ k ∈ x.attrs, k.wf) ∧ x.start < 2 ^ 64 ∧ x.time < 2 ^ 64 ∧ x.count < 2 ^ 64 ∧ x.sum < 2 ^ 64 ∧ x.min < 2 ^ 64 ∧ x.max < 2 ^ 64 ∧ (∀ m ∈ x.counts, m < 2 ^ 64) ∧ (∀ m ∈ x.bounds, m < 2 ^ 64) ∧ (∀ k ∈ x.exs, k.wf) ∧ x.flags < 4294967296
def Hi.sz (x : Hi) : Nat := 300 + Kv.szs x.attrs + 8 * x.counts.length + 8 * x.bounds.length + (x.exs.map Em.sz).sum + x.u.length
def Hi.may (x : Hi) (d : Int) : Bool := decide (0 ≤ d) && (k'48 x.sumH x.sum && k'48 x.minH x.min && k'48 x.maxH x.max) && (x.exs.all fun k => k.may (d - 1)) && (x.attrs.all fun k => k.may (d - 1)) && restB tbH x.u d
theorem Hi.hb_len (x : Hi) : x.mar.length + 20 ≤ x.sz := by
 have q0 := k'26 2 x.start
 have q1 := k'26 3 x.time
 have q2 := k'26 4 x.count
 have q3 := k'4b 5 x.sumH x.sum
 have q4 := pwV_len 6 x.counts
 have q5 := pwV_len 7 x.bounds
 have q6 := psV_sum 8 x.exs fun y _ => Em.mar_len y
 have q7 := Kv.marsP_len 9 x.attrs
 have q8 := vrV_len 10 x.flags
 have q9 := k'4b 11 x.minH x.min
 have q10 := k'4b 12 x.maxH x.max
 unfold Hi.mar Hi.hb Hi.sz
 simp only [List.length_append]
 omega
theorem Hi.mar_len (x : Hi) : x.mar.length + 20 ≤ x.sz := Hi.hb_len x
theorem Hi.mars_lt {l : List Hi} (h : (l.map Hi.sz).sum < big) : ∀ s ∈ l.map Hi.mar, s.length < 2 ^ 64 := fun s hs => by
 obtain ⟨k, hk, rfl⟩ := List.mem_map.1 hs
 have h1 := Hi.mar_len k; have h2 := k'3b (sz := Hi.sz) hk
 unfold big at h; omega
theorem Hi.all {x : Hi} (h1 : x.sz < big) (h2 : x.wf) (d : Int) : all x.hb d = .ok x.hF := by
 unfold Hi.sz big at h1
 obtain ⟨w0, w1, w2, w3, w4, w5, w6, w7, w8, w9, w10⟩ := h2
 exact k'9 (k'9 (k'9 (k'9 (k'9 (k'9 (k'9 (k'9 (k'9 (k'9 (k'3x (by omega) (by omega) d (by omega)) (k'3x (by omega) (by omega) d (by omega))) (k'3x (by omega) (by omega) d (by omega))) (all_op (by omega) (by omega) d _ (by omega))) (all_pw 6 x.counts (by omega) (by omega) d (by omega))) (all_pw 7 x.bounds (by omega) (by omega) d (by omega))) (k'4k (by omega) (by omega) d (Em.mars_lt (by unfold big; omega)))) (k'4k (by omega) (by omega) d (Kv.mars_lt (by unfold big; omega)))) (all_vr (by omega) (by omega) d (by omega))) (all_op (by omega) (by omega) d _ (by omega))) (all_op (by omega) (by omega) d _ (by omega))
theorem Hi.inn (x : Hi) : inT tbH x.hF = true := by
 unfold Hi.hF
 simp only [inT_app, Bool.and_eq_true]
 exact ⟨⟨⟨⟨⟨⟨⟨⟨⟨⟨in_fx 2 x.start rfl, in_fx 3 x.time rfl⟩, in_fx 4 x.count rfl⟩, in_op 5 x.sum _ rfl⟩, in_pw 6 x.counts rfl⟩, in_pw 7 x.bounds rfl⟩, in_ps 8 _ rfl⟩, in_ps 9 _ rfl⟩, in_vr 10 x.flags rfl⟩, in_op 11 x.min _ rfl⟩, in_op 12 x.max _ rfl⟩
def k'45 (d : Int) (l : List Fld) : Option (List UInt8 → Hi) :=
 match k'7 (fun s => okK s (d - 1)) 9 l with
 | none => none
 | some attrs =>
 match k'p fixs 6 l with
 | none => none
 | some counts =>
 match k'p fixs 7 l with
 | none => none
 | some bounds =>
 match k'7 (fun s => okEm s (d - 1)) 8 l with
 | none => none
 | some exs =>
 some fun u => ⟨attrs, (k'a l 2).n, (k'a l 3).n, (k'a l 4).n, (hasL l 5), (k'a l 5).n, (hasL l 11), (k'a l 11).n, (hasL l 12), (k'a l 12).n, counts, bounds, exs, (k'a l 10).n % 4294967296, u⟩
def okHi (s : List UInt8) (d : Int) : Option Hi := apO (okG tbH k'45 s d)
theorem Hi.tell {x : Hi} (hwf : x.wf) (h_sum : k'48 x.sumH x.sum = true) (h_min : k'48 x.minH x.min = true) (h_max : k'48 x.maxH x.max = true) (d : Int) : k'45 d x.hF = (
 match mapO (fun s => okK s (d - 1)) (Kv.mars x.attrs) with
 | none => none
 | some attrs =>
 match mapO (fun s => okEm s (d - 1)) ((x.exs.map Em.mar)) with
 | none => none
 | some exs =>
 some fun u => ⟨attrs, x.start, x.time, x.count, x.sumH, x.sum, x.minH, x.min, x.maxH, x.max, x.counts, x.bounds, exs, x.flags, u⟩) := by
 obtain ⟨w0, w1, w2, w3, w4, w5, w6, w7, w8, w9, w10⟩ := hwf
 have sattrs : sel 9 x.hF = psF 9 (Kv.mars x.attrs) := by unfold Hi.hF; simp [k'i, k'17, k'15, k'16, k'13, k'11, sel_pw]
 have tattrs : ∀ {α : Type} (ok : List UInt8 → Option α), k'7 ok 9 x.hF = mapO ok (Kv.mars x.attrs) := fun ok => k'2v ok sattrs
 have sstart : sel 2 x.hF = fxF 2 x.start := by unfold Hi.hF; simp [k'i, k'17, k'15, k'16, k'13, k'11, sel_pw]
 have tstart : (k'a x.hF 2).n = x.start := k'24 sstart
 have stime : sel 3 x.hF = fxF 3 x.time := by unfold Hi.hF; simp [k'i, k'17, k'15, k'16, k'13, k'11, sel_pw]
 have ttime : (k'a x.hF 3).n = x.time := k'24 stime
 have scount : sel 4 x.hF = fxF 4 x.count := by unfold Hi.hF; simp [k'i, k'17, k'15, k'16, k'13, k'11, sel_pw]
 have tcount : (k'a x.hF 4).n = x.count := k'24 scount
 have ssum : sel 5 x.hF = opF 5 x.sumH x.sum := by unfold Hi.hF; simp [k'i, k'17, k'15, k'16, k'13, k'11, sel_pw]
 have tsum := opt_of (by omega) ssum h_sum
 have smin : sel 11 x.hF = opF 11 x.minH x.min := by unfold Hi.hF; simp [k'i, k'17, k'15, k'16, k'13, k'11, sel_pw]
 have tmin := opt_of (by omega) smin h_min
 have smax : sel 12 x.hF = opF 12 x.maxH x.max := by unfold Hi.hF; simp [k'i, k'17, k'15, k'16, k'13, k'11, sel_pw]
 have tmax := opt_of (by omega) smax h_max
 have scounts : sel 6 x.hF = pwF 6 x.counts := by unfold Hi.hF; simp [k'i, k'17, k'15, k'16, k'13, k'11, sel_pw]
 have tcounts : k'p fixs 6 x.hF = some x.counts := pack_pw w7 scounts
 have sbounds : sel 7 x.hF = pwF 7 x.bounds := by unfold Hi.hF; simp [k'i, k'17, k'15, k'16, k'13, k'11, sel_pw]
 have tbounds : k'p fixs 7 x.hF = some x.bounds := pack_pw w8 sbounds
 have sexs : sel 8 x.hF = psF 8 (x.exs.map Em.mar) := by unfold Hi.hF; simp [k'i, k'17, k'15, k'16, k'13, k'11, sel_pw]
 have texs : ∀ {α : Type} (ok : List UInt8 → Option α), k'7 ok 8 x.hF = mapO ok ((x.exs.map Em.mar)) := fun ok => k'2v ok sexs
 have sflags : sel 10 x.hF = vrF 10 x.flags := by unfold Hi.hF; simp [k'i, k'17, k'15, k'16, k'13, k'11, sel_pw]
 have tflags : (k'a x.hF 10).n % 4294967296 = x.flags := by rw [last_vr sflags]; omega
 unfold k'45
 simp only [tattrs, tstart, ttime, tcount, tsum.1, tsum.2, tmin.1, tmin.2, tmax.1, tmax.2, tcounts, tbounds, texs, tflags]
theorem Hi_told : Told okHi Hi.may Hi.wf Hi.sz 1200 := by
 intro d s x h
 obtain ⟨f, u, h1, rfl⟩ := k'2z h
 obtain ⟨l, -, h2, -, h4, hd, hf, hw⟩ := k'3e h1
 dsimp only at h2 h4 hw
 unfold k'45 at h2
 split at h2
 ·simp at h2
 rename_i attrs g_attrs
 split at h2
 ·simp at h2
 rename_i counts g_counts
 split at h2
 ·simp at h2
 rename_i bounds g_bounds
 split at h2
 ·simp at h2
 rename_i exs g_exs
 injection h2 with h2
 subst h2
 obtain ⟨p_attrs, q_attrs, r_attrs⟩ := Kv_told.parts hf g_attrs
 obtain ⟨p_exs, q_exs, r_exs⟩ := Em_told.parts hf g_exs
 have l_counts := k'38 (fun s l h => fixs_len h) hf g_counts
 have l_bounds := k'38 (fun s l h => fixs_len h) hf g_bounds
 refine ⟨?_, ⟨q_attrs, k'18 hf 2, k'18 hf 3, k'18 hf 4, k'18 hf 5, k'18 hf 11, k'18 hf 12, packO_lt2 (fun s l h => eiE_lt h) hf g_counts, packO_lt2 (fun s l h => eiE_lt h) hf g_bounds, q_exs, Nat.mod_lt _ (by decide)⟩, ?_⟩
 ·unfold Hi.may
  simp only [Bool.and_eq_true]
  exact ⟨⟨⟨⟨decide_eq_true hd, (⟨⟨opt_told, opt_told⟩, opt_told⟩)⟩, p_exs⟩, p_attrs⟩, h4⟩
 ·unfold Hi.sz
  simp only [Kv.szs_sum]
  omega
def Hi.eq (x y : Hi) : Bool := Kv.eqs x.attrs y.attrs && x.start == y.start && x.time == y.time && x.count == y.count && (x.sumH == y.sumH && x.sum == y.sum) && (x.minH == y.minH && x.min == y.min) && (x.maxH == y.maxH && x.max == y.max) && x.counts == y.counts && x.bounds == y.bounds && Em.eqs x.exs y.exs && x.flags == y.flags && x.u == y.u
def Hi.eqs : List Hi → List Hi → Bool
 | [], [] => true
 | v :: l, w :: r => v.eq w && Hi.eqs l r
 | [], _ :: _ => false
 | _ :: _, [] => false
theorem Hi.eq_self (x : Hi) : x.eq x = true := by unfold Hi.eq; simp [Kv.eqs_self, Em.eqs_self]
theorem Hi.eqs_self : ∀ l : List Hi, Hi.eqs l l = true
 | [] => rfl
 | v :: l => by unfold Hi.eqs; simp [Hi.eq_self v, Hi.eqs_self l]
theorem Hi.eqs_by (a b : List Hi) : Hi.eqs a b = (a.length == b.length && (List.range a.length).all (byI Hi.eq a b)) :=
 k'4d Hi.eq Hi.eqs rfl (fun _ _ _ _ => rfl) (fun _ _ => rfl) (fun _ _ => rfl) a b
end
