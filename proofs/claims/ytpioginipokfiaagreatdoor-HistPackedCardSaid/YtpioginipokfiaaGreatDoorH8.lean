/- Hist: counts told one by one, packed, or both. -/
import Derived.Test.YtpioginipokfiaaGreatDoorHL
set_option linter.unusedSimpArgs false
set_option linter.unusedVariables false
set_option maxRecDepth 100000
namespace Go.Proofs.YtpioginipokfiaaGreatDoor
open Go Go.Abs
variable (B : Fr)
def hC (cs : List Nat) : Hi := ⟨[], 0, 0, 0, false, 0, false, 0, false, 0, cs, [], [], 0, []⟩
def hN (n : Nat) : Hi := ⟨[], 0, 0, n, false, 0, false, 0, false, 0, [], [], [], 0, []⟩
def onesV (l : List Nat) : List UInt8 := l.flatMap (e8V 6)
def onesF (l : List Nat) : List Fld := l.map (e8R 6)
theorem hC_mar (cs : List Nat) : (hC cs).mar = pwV 6 cs := by
 show [] ++ [] ++ [] ++ [] ++ pwV 6 cs ++ [] ++ [] ++ [] ++ [] ++ [] ++ [] ++ [] = _
 simp
theorem hN_mar (n : Nat) : (hN n).mar = fxV 4 n := by
 show [] ++ [] ++ fxV 4 n ++ [] ++ [] ++ [] ++ [] ++ [] ++ [] ++ [] ++ [] ++ [] = _
 simp
theorem hC_may (cs : List Nat) : (hC cs).may 0 = true := by rfl
theorem hN_may (n : Nat) : (hN n).may 0 = true := by rfl
theorem hC_wf {cs : List Nat} (h : ∀ m ∈ cs, m < 2 ^ 64) : (hC cs).wf := ⟨by simp [hC], (by show (0 : Nat) < 2 ^ 64; decide), (by show (0 : Nat) < 2 ^ 64; decide), (by show (0 : Nat) < 2 ^ 64; decide), (by show (0 : Nat) < 2 ^ 64; decide), (by show (0 : Nat) < 2 ^ 64; decide), (by show (0 : Nat) < 2 ^ 64; decide), h, by simp [hC], by simp [hC], (by show (0 : Nat) < 4294967296; decide)⟩
theorem hN_wf {n : Nat} (h : n < 2 ^ 64) : (hN n).wf := ⟨by simp [hN], (by show (0 : Nat) < 2 ^ 64; decide), (by show (0 : Nat) < 2 ^ 64; decide), h, (by show (0 : Nat) < 2 ^ 64; decide), (by show (0 : Nat) < 2 ^ 64; decide), (by show (0 : Nat) < 2 ^ 64; decide), by simp [hN], by simp [hN], by simp [hN], (by show (0 : Nat) < 4294967296; decide)⟩
theorem hC_sz (cs : List Nat) : (hC cs).sz = 300 + 8 * cs.length := by simp [Hi.sz, hC, Kv.szs]
theorem hN_sz (n : Nat) : (hN n).sz = 300 := by simp [Hi.sz, hN, Kv.szs]
theorem hC_R (z : Bool) (cs : List Nat) : (hC cs).R (.agg [.sl true [], .int .u64 (0 : Nat), .int .u64 (0 : Nat), .int .u64 (0 : Nat), .bool false, .int .u64 (0 : Nat), .bool false, .int .u64 (0 : Nat), .bool false, .int .u64 (0 : Nat), .sl z (cs.map uD), .sl true [], .sl true [], .int .u32 (0 : Nat), .str []]) := ⟨true, [], z, true, true, [], rfl, rfl, ⟨rfl, fun i v h => by simp [hC] at h⟩⟩
theorem hN_R (n : Nat) : (hN n).R (.agg [.sl true [], .int .u64 (0 : Nat), .int .u64 (0 : Nat), .int .u64 n, .bool false, .int .u64 (0 : Nat), .bool false, .int .u64 (0 : Nat), .bool false, .int .u64 (0 : Nat), .sl true [], .sl true [], .sl true [], .int .u32 (0 : Nat), .str []]) := ⟨true, [], true, true, true, [], rfl, rfl, ⟨rfl, fun i v h => by simp [hN] at h⟩⟩
theorem ones_all (d : Int) : ∀ {l : List Nat}, (∀ n ∈ l, n < 2 ^ 64) → all (onesV l) d = .ok (onesF l)
 | [], _ => all_nil d
 | n :: l, h => by
  have h1 := all_e8 (n := 6) (v := n) (by omega) (by omega) d (h n (List.mem_cons_self ..))
  have h2 := ones_all d (l := l) fun m hm => h m (List.mem_cons_of_mem _ hm)
  exact k'4 (a := [e8R 6 n]) h1 h2
theorem ones_pack (l : List Nat) : k'13 fixs 6 (onesF l) = some l := by
 induction l with
 | nil => rfl
 | cons n l ih =>
  show k'13 fixs 6 (e8R 6 n :: onesF l) = _
  unfold k'13
  rw [if_pos (show (e8R 6 n).num = 6 from rfl), if_neg (show ¬ (e8R 6 n).kind = 2 from (by decide : ¬ (1 : Nat) = 2)), ih]
  rfl
theorem ones_in (l : List Nat) : inT tbH (onesF l) = true := by
 refine List.all_eq_true.2 fun x hx => ?_
 obtain ⟨n, -, rfl⟩ := List.mem_map.1 hx
 rfl
theorem ones_sel {k : Nat} (hk : 6 ≠ k) (l : List Nat) : sel k (onesF l) = [] := by
 unfold sel
 refine List.filter_eq_nil_iff.2 fun x hx => ?_
 obtain ⟨n, -, rfl⟩ := List.mem_map.1 hx
 simp [e8R, hk]
theorem both_sel {k : Nat} (hk : 6 ≠ k) (a b : List Nat) : sel k (pwF 6 a ++ onesF b) = [] := by rw [k'z, sel_pw, if_neg hk, ones_sel hk]; rfl
theorem both_ok {a b : List Nat} (ha : ∀ n ∈ a, n < 2 ^ 64) (hb : ∀ n ∈ b, n < 2 ^ 64) (hl : a.length < 2 ^ 40) : okHi (pwV 6 a ++ onesV b) 0 = some (hC (a ++ b)) := by
 have h1 := k'4 (all_pw 6 a (by omega) (by omega) 0 hl) (ones_all 0 hb)
 have h2 : inT tbH (pwF 6 a ++ onesF b) = true := by rw [inT_app, in_pw 6 a rfl, ones_in]; rfl
 unfold okHi
 rw [← List.append_nil (pwV 6 a ++ onesV b), okG_mar (by omega) h1 h2 rfl]
 have hp := packO_app (pack_pw (l := pwF 6 a) ha (by rw [sel_pw, if_pos rfl])) (ones_pack b)
 have hs := fun k (hk : 6 ≠ k) => both_sel hk a b
 have e7 : k'13 fixs 7 (pwF 6 a ++ onesF b) = some [] := pack_pw (by simp) (by rw [hs 7 (by decide)]; rfl)
 have e8 : ∀ {α : Type} (ok : List UInt8 → Option α), k'a ok 8 (pwF 6 a ++ onesF b) = some [] := fun ok => (parts_of ok (ms := []) (by rw [hs 8 (by decide)]; rfl)).trans rfl
 have e9 : ∀ {α : Type} (ok : List UInt8 → Option α), k'a ok 9 (pwF 6 a ++ onesF b) = some [] := fun ok => (parts_of ok (ms := []) (by rw [hs 9 (by decide)]; rfl)).trans rfl
 have lf : ∀ k, 6 ≠ k → (k'e (pwF 6 a ++ onesF b) k).n = 0 := fun k hk => last_fx (by rw [hs k hk]; rfl)
 have hf : ∀ k, k ≠ 0 → 6 ≠ k → hasL (pwF 6 a ++ onesF b) k = false := fun k h0 hk => (opt_of (v := 0) h0 (by rw [hs k hk]; rfl) rfl).1
 unfold tellHi
 simp only [hp, e7, e8, e9]
 rw [lf 2 (by decide), lf 3 (by decide), lf 4 (by decide), lf 5 (by decide), lf 10 (by decide), lf 11 (by decide), lf 12 (by decide), hf 5 (by decide) (by decide), hf 11 (by decide) (by decide), hf 12 (by decide) (by decide)]
 rfl
theorem onesV_app (a b : List Nat) : onesV (a ++ b) = onesV a ++ onesV b := List.flatMap_append
theorem onesV_len (l : List Nat) : (onesV l).length = 9 * l.length := by
 induction l with
 | nil => rfl
 | cons n l ih =>
  show (e8V 6 n ++ onesV l).length = _
  rw [List.length_append, ih, show e8V 6 n = [49] ++ le8 n from rfl]
  simp [k'20]; omega
theorem fx4_zero : fxV 4 0 = [] := rfl
theorem fx4_pos {n : Nat} (h : n ≠ 0) : fxV 4 n = 33 :: le8 n := by unfold fxV; rw [if_neg h]; rfl
theorem e86 (n : Nat) : e8V 6 n = [49] ++ le8 n := rfl
theorem le8_zero : le8 0 = [0, 0, 0, 0, 0, 0, 0, 0] := by rfl
theorem HistPacked_law (hB : BOk B) (l : List Nat) (z : Bool) (hl : l.length ≤ 9223372036854775807 ∧ ∀ n ∈ l, n < 2 ^ 64) (c : Int) (hc1 : -9223372036854775808 ≤ c) (hc2 : c < 9223372036854775808) :
  k'0 (cx B) 3 [.d (.sl z (l.map uD)), .d (.int .i64 c)] [] (.d (.bool true)) [] := by
 have hf := firstHi_calls B hB
 obtain ⟨hll, hlt⟩ := hl
 have hlen : (l.map uD).length = l.length := by simp
 refine l_bw Tryz.func3 0 [] ?_
 refine l_cw [] (hf) rfl rfl rfl ?_
 rw [hlen]
 by_cases h1 : l.length > 300
 ·rw [show decide ((l.length : Int) > 300) = true from decide_eq_true (by omega)]
  refine Y ?_
  refine k'1 [] (hf) rfl rfl rfl ?_
  exact Z
 rw [show decide ((l.length : Int) > 300) = false from decide_eq_false (by omega)]
 refine Y ?_
 by_cases h2 : c < 0
 ·rw [show decide (c < 0) = true from decide_eq_true h2]
  refine Y ?_
  refine k'1 [] (hf) rfl rfl rfl ?_
  exact Z
 rw [show decide (c < 0) = false from decide_eq_false h2]
 refine Y ?_
 rw [hlen]
 by_cases h3 : c > l.length
 ·rw [show decide (c > (l.length : Int)) = true from decide_eq_true h3]
  refine Y ?_
  refine k'1 [] (hf) rfl rfl rfl ?_
  exact Z
 rw [show decide (c > (l.length : Int)) = false from decide_eq_false h3]
 refine Y ?_
 obtain ⟨k, rfl⟩ : ∃ k : Nat, c = k := ⟨c.toNat, by omega⟩
 have h0 : k ≤ l.length := by omega
 have b0 : ∀ cs : List Nat, cs.length ≤ 300 → (hC cs).sz < big := fun cs h => by rw [hC_sz]; unfold big; omega
 have lt1 : ∀ n ∈ l.take k, n < 2 ^ 64 := fun n hn => hlt n (List.mem_of_mem_take hn)
 have lt2 : ∀ n ∈ l.drop k, n < 2 ^ 64 := fun n hn => hlt n (List.mem_of_mem_drop hn)
 have c2 := k'k B (hC (l.take k)) _ 0 (b0 _ (by rw [List.length_take]; omega)) (hC_wf lt1) (hC_R z _) (by omega) (by omega)
 rw [if_pos (hC_may _), hC_mar] at c2
 refine k'2 (.slicePre (z := z) (es := l.map uD) (k := .i64) (n := k) rfl rfl rfl rfl rfl rfl (by omega)) rfl rfl ?_
 rw [← List.map_take]
 refine Y ?_
 refine l_cw [] (c2) rfl rfl rfl ?_
 refine k's (fun i : Nat => l.length - i) (fun i => [(0, .d (.sl z (l.map uD))), (5, sT (pwV 6 (l.take k))), (6, .d .nili), (7, sT (onesV ((l.take i).drop k))), (8, iT i)]) (fun _ => []) (fun i => k ≤ i ∧ i ≤ l.length) k ⟨Nat.le_refl _, h0⟩ ⟨rfl, rfl, rfl, by rw [List.drop_of_length_le (by rw [List.length_take]; omega)]; rfl, rfl, trivial⟩ rfl 0 rfl (fun _ => rfl) (fun _ => rfl) (fun _ => rfl) ?_
 rintro i ⟨i1, i2⟩
 refine Y ?_
 rw [hlen]
 by_cases hi : i < l.length
 ·rw [show decide ((i : Int) < l.length) = true from decide_eq_true (by omega)]
  obtain ⟨n, hx⟩ : ∃ n, l[i]? = some n := ⟨_, List.getElem?_eq_getElem hi⟩
  have hdx : (l.map uD)[i]? = some (uD n) := by rw [List.getElem?_map, hx]; rfl
  have hn := hlt n (List.mem_of_getElem? hx)
  have c4 := k'k B (hN n) _ 0 (by rw [hN_sz]; unfold big; omega) (hN_wf hn) (hN_R n) (by omega) (by omega)
  rw [if_pos (hN_may _), hN_mar] at c4
  have hnx : onesV ((l.take i).drop k) ++ ([49] ++ le8 n) = onesV ((l.take (i + 1)).drop k) := by
   have e : (l.take (i + 1)).drop k = (l.take i).drop k ++ [n] := by
    rw [List.take_add_one, hx, List.drop_append_of_le_length (by rw [List.length_take]; omega)]; rfl
   rw [e, onesV_app, ← e86]
   show _ = _ ++ (e8V 6 n ++ [])
   rw [List.append_nil]
  have hol : (onesV ((l.take i).drop k)).length ≤ 2700 := by
   rw [onesV_len, List.length_drop, List.length_take]; omega
  have hl8 := k'20 n
  refine Y ?_
  refine k'2 (.indexAddr (k := .i64) (n := i) (es := l.map uD) (u := uD n) rfl rfl rfl rfl (.inl ⟨_, rfl⟩) rfl (by omega) (by simpa using hdx) rfl (by decide)) rfl rfl ?_
  refine Y ?_
  by_cases hz : n = 0
  ·subst hz
   rw [fx4_zero] at c4
   rw [le8_zero] at hnx hl8
   refine l_cw [] (c4) rfl rfl rfl ?_
   refine l_stepG (.indexAddr (k := .i64) (n := i) (es := l.map uD) (u := uD 0) rfl rfl rfl rfl (.inl ⟨_, rfl⟩) rfl (by omega) (by simpa using hdx) rfl (by decide)) rfl rfl rfl rfl ?_
   refine Y ?_
   refine k'2 (.indexAddr (k := .i64) (n := i) (es := l.map uD) (u := uD 0) rfl rfl rfl rfl (.inl ⟨_, rfl⟩) rfl (by omega) (by simpa using hdx) rfl (by decide)) rfl rfl ?_
   refine Y ?_
   refine k'2 (.sliceStr (s := [33, 0, 0, 0, 0, 0, 0, 0, 0]) (l := 1) (h := 9) rfl rfl rfl rfl ⟨.i64, rfl⟩ rfl (by omega) (by decide)) rfl rfl ?_
   refine k'2 (.addStr (a := [49]) (b := [0, 0, 0, 0, 0, 0, 0, 0]) rfl rfl rfl (by decide)) rfl rfl ?_
   refine k'2 (.addStr (a := onesV ((l.take i).drop k)) (b := [49] ++ [0, 0, 0, 0, 0, 0, 0, 0]) rfl rfl rfl (by simp; omega)) rfl rfl ?_
   rw [hnx]
   refine Y ?_
   rw [wS i (by omega)]
   exact ⟨i + 1, by show l.length - (i + 1) < l.length - i; omega, ⟨by omega, by omega⟩, ⟨rfl, rfl, rfl, rfl, rfl, trivial⟩, rfl, k'19 rfl⟩
  ·rw [fx4_pos hz] at c4
   refine l_cw [] (c4) rfl rfl rfl ?_
   refine l_stepG (.indexAddr (k := .i64) (n := i) (es := l.map uD) (u := uD n) rfl rfl rfl rfl (.inl ⟨_, rfl⟩) rfl (by omega) (by simpa using hdx) rfl (by decide)) rfl rfl rfl rfl ?_
   refine Y ?_
   rw [show decide ((n : Int) > 0) = true from decide_eq_true (by omega)]
   refine Y ?_
   rw [show (((33 :: le8 n).length : Int) != 9) = false by rw [bne_eq_false_iff_eq, List.length_cons]; omega]
   refine Y ?_
   refine k'2 (.indexAddr (k := .i64) (n := i) (es := l.map uD) (u := uD n) rfl rfl rfl rfl (.inl ⟨_, rfl⟩) rfl (by omega) (by simpa using hdx) rfl (by decide)) rfl rfl ?_
   refine Y ?_
   rw [show ((n : Int) == 0) = false by rw [beq_eq_false_iff_ne]; omega]
   refine Y ?_
   refine k'2 (.sliceStr (s := 33 :: le8 n) (l := 1) (h := (33 :: le8 n).length) rfl rfl rfl rfl ⟨.i64, rfl⟩ rfl (by rw [List.length_cons]; omega) (Nat.le_refl _)) rfl rfl ?_
   rw [show ((33 :: le8 n).drop 1).take ((33 :: le8 n).length - 1) = le8 n by simp]
   refine k'2 (.addStr (a := [49]) (b := le8 n) rfl rfl rfl (by rw [hl8]; decide)) rfl rfl ?_
   refine k'2 (.addStr (a := onesV ((l.take i).drop k)) (b := [49] ++ le8 n) rfl rfl rfl (by rw [List.length_append, hl8]; simp; omega)) rfl rfl ?_
   rw [hnx]
   refine Y ?_
   rw [wS i (by omega)]
   exact ⟨i + 1, by show l.length - (i + 1) < l.length - i; omega, ⟨by omega, by omega⟩, ⟨rfl, rfl, rfl, rfl, rfl, trivial⟩, rfl, k'19 rfl⟩
 ·have he : i = l.length := by omega
  subst he
  rw [show decide ((l.length : Int) < l.length) = false from decide_eq_false (by omega)]
  have hb : (pwV 6 (l.take k) ++ onesV (l.drop k)).length < big := by
   have h1 := pwV_len 6 (l.take k)
   rw [List.length_append, onesV_len, List.length_drop]
   rw [List.length_take] at h1
   unfold big; omega
  have hok := both_ok lt1 lt2 (by rw [List.length_take]; omega)
  rw [List.take_append_drop] at hok
  have c5 := Hi_some B hB hb (by omega) (by omega) hok
  have c6 := k'k B (hC l) _ 0 (b0 _ (by omega)) (hC_wf hlt) (Hi.d_R _) (by omega) (by omega)
  have c7 := k'k B (hC l) _ 0 (b0 _ (by omega)) (hC_wf hlt) (hC_R z _) (by omega) (by omega)
  rw [if_pos (hC_may _), hC_mar] at c6 c7
  have c8 := NumsZ B l.isEmpty z l l (by omega)
  rw [beq_self_eq_true] at c8
  rw [List.take_length]
  have hbl := hb
  unfold big at hbl
  rw [List.length_append] at hbl
  have hD : (hC l).d = .agg [.sl true [], .int .u64 (0 : Nat), .int .u64 (0 : Nat), .int .u64 (0 : Nat), .bool false, .int .u64 (0 : Nat), .bool false, .int .u64 (0 : Nat), .bool false, .int .u64 (0 : Nat), .sl l.isEmpty (l.map uD), .sl true [], .sl true [], .int .u32 (0 : Nat), .str []] := by
   unfold Hi.d hC slD
   rw [List.isEmpty_map]
   rfl
  rw [hD] at c5 c6
  generalize pwV 6 l = M at c6 c7
  refine Y ?_
  refine k'2 (.addStr (a := pwV 6 (l.take k)) (b := onesV (l.drop k)) rfl rfl rfl (by omega)) rfl rfl ?_
  refine l_cw [] (c5) rfl rfl rfl ?_
  refine l_cw [] (c6) rfl rfl rfl ?_
  refine l_cw [] (c7) rfl rfl rfl ?_
  refine l_cw [] (hf) rfl rfl rfl ?_
  refine l_cGw [] (c8) rfl rfl rfl rfl rfl ?_
  rw [beq_self_eq_true M]
  exact Z
