/- The reference: values and attributes read. -/
import Derived.Test.YtcfkbpddmdfbaaaGreatDoorPAB
import Derived.Test.YtcfkbpddmdfbaaaGreatDoorR7
import Derived.Test.YtcfkbpddmdfbaaaGreatDoorRR
set_option linter.unusedSimpArgs false
set_option linter.unusedVariables false
set_option maxRecDepth 100000
namespace Go.Proofs.YtcfkbpddmdfbaaaGreatDoor
open Go Go.Abs
variable (B : Fr)
section
/-! What is told of a message's records. -/
/-! An attribute, record by record. -/
theorem tk_K (n k : Nat) (hk : k < 8) : tkB [10, 18] n k = tbK n k := by
 unfold tkB tbK
 rw [Bool.eq_iff_iff]
 simp
 omega
theorem tk_L (n k : Nat) (hk : k < 8) : tkB [10] n k = tbL n k := by
 unfold tkB tbL
 rw [Bool.eq_iff_iff]
 simp
 omega
theorem tbV_big {n k : Nat} (hn : 9 ≤ n) : tbV n k = false := by
 unfold tbV
 simp
 (repeat' split) <;> omega
theorem tk_V (n k : Nat) (hk : k < 8) : tkB [10, 16, 24, 33, 42, 50, 58] n k = tbV n k := by
 by_cases hn : n < 9
 ·exact (by decide : ∀ n < 9, ∀ k < 8, tkB [10, 16, 24, 33, 42, 50, 58] n k = tbV n k) n hn k hk
 ·rw [show tkB [10, 16, 24, 33, 42, 50, 58] n k = false by unfold tkB; simp; omega, tbV_big (by omega)]
theorem pairs_calls : k'0 (cx B) 226 [] [] (.d (.sl false ([10, 18].map iD))) [] := by
 refine l_bw Tryz.func226 0 [] ?_
 (try refine k'1t rfl ?_)
 refine k'1 (.buildSlice (es := [10, 18].map iD) rfl rfl rfl rfl rfl rfl (by intro x hx; simp [iD] at hx; rcases hx with rfl | rfl <;> rfl) (by decide) (by decide) (by decide)) rfl rfl ?_
 exact Z
theorem rlists_calls : k'0 (cx B) 352 [] [] (.d (.sl false ([10].map iD))) [] := by
 refine l_bw Tryz.func352 0 [] ?_
 (try refine k'1t rfl ?_)
 refine k'1 (.buildSlice (es := [10].map iD) rfl rfl rfl rfl rfl rfl (by intro x hx; simp [iD] at hx; subst hx; rfl) (by decide) (by decide) (by decide)) rfl rfl ?_
 exact Z
theorem k'1n : k'0 (cx B) 300 [] [] (.d (.sl false ([10, 16, 24, 33, 42, 50, 58].map iD))) [] := by
 refine l_bw Tryz.func300 0 [] ?_
 (try refine k'1t rfl ?_)
 refine k'1 (.buildSlice (es := [10, 16, 24, 33, 42, 50, 58].map iD) rfl rfl rfl rfl rfl rfl (by intro x hx; simp [iD] at hx; rcases hx with rfl | rfl | rfl | rfl | rfl | rfl | rfl <;> rfl) (by decide) (by decide) (by decide)) rfl rfl ?_
 exact Z
end
section
theorem buckets_calls : k'0 (cx B) 357 [] [] (.d (.sl false ([8, 16, 18].map iD))) [] := by
 refine l_bw Tryz.func357 0 [] ?_
 (try refine k'1t rfl ?_)
 refine k'1 (.buildSlice (es := [8, 16, 18].map iD) rfl rfl rfl rfl rfl rfl (by intro x hx; simp [iD] at hx; rcases hx with rfl | rfl | rfl <;> rfl) (by decide) (by decide) (by decide)) rfl rfl ?_
 exact Z
theorem tk_B (n k : Nat) (hk : k < 8) : tkB [8, 16, 18] n k = tbB n k := by
 unfold tkB tbB
 rw [Bool.eq_iff_iff]
 simp
 omega
end
section
theorem k'2y (n : Nat) (hn : n < 2 ^ 64) : k'0 (cx B) 85 [uT n] [] (sT (putV n)) [] := by
 refine l_bw Tryz.func85 0 [] ?_
 refine k'8 (fun x : Nat × Nat × List UInt8 => x.2.1) (fun x => [(0, uT x.2.1), (3, owT (x.2.2.map k'27))]) (fun _ => []) (fun x => putV n = x.2.2 ++ vput x.1 x.2.1 ∧ x.2.1 < 128 ^ (x.1 + 1) ∧ x.2.2.length + x.1 = 9 ∧ x.2.1 < 2 ^ 64) (9, n, []) ⟨rfl, by show n < 128 ^ 10; omega, rfl, hn⟩ ⟨rfl, rfl, trivial⟩ rfl 0 rfl (fun _ => rfl) (fun _ => rfl) (fun _ => rfl) ?_
 rintro ⟨f, m, acc⟩ ⟨i1, i2, i3, i4⟩
 dsimp only at i1 i2 i3 i4 ⊢
 refine Y ?_
 refine k'13 rfl (fun hc => ?_) (fun hc => ?_)
 ·have hm : 128 ≤ m := by have := of_decide_eq_true hc; omega
  cases f with
  | zero => omega
  | succ f =>
  have hst : vput (f + 1) m = UInt8.ofNat (m % 128 + 128) :: vput f (m / 128) := by show (if m < 128 then _ else _) = _; rw [if_neg (by omega)]
  have ha : IntKind.u64.wrap ((BitVec.ofInt IntKind.u64.bits (m : Int) &&& BitVec.ofInt IntKind.u64.bits 127).toNat : Int) = ((m % 128 : Nat) : Int) := and64 i4 7 (by omega)
  have ho : IntKind.u64.wrap ((BitVec.ofInt IntKind.u64.bits ((m % 128 : Nat) : Int) ||| BitVec.ofInt IntKind.u64.bits 128).toNat : Int) = ((m % 128 + 128 : Nat) : Int) := or64 (b := 1) (i := 7) (by omega) (by omega)
  have hb : IntKind.u8.wrap ((m % 128 + 128 : Nat) : Int) = ((UInt8.ofNat (m % 128 + 128)).toNat : Int) := by rw [k'3z (by omega)]; exact wrapB (by omega) (by omega)
  refine Y ?_
  (try refine k'1t rfl ?_)
  refine k'1 (.assignOwn (.inr rfl) rfl) rfl rfl ?_
  refine Y ?_
  rw [ha, ho, hb]
  refine k'1 (.buildSlice (es := [k'27 (UInt8.ofNat (m % 128 + 128))]) rfl rfl rfl rfl rfl rfl (by intro x hx; simp at hx; subst hx; rfl) (by simp) (by decide) (by decide)) rfl rfl ?_
  have hml : (acc.map k'27).length + [k'27 (UInt8.ofNat (m % 128 + 128))].length ≤ most := by simp [most]; omega
  refine k'1 (.append' rfl rfl rfl rfl ⟨_, _, rfl, rfl, by intro q; simp⟩ rfl rfl rfl rfl rfl (by rw [show [k'27 (UInt8.ofNat (m % 128 + 128))] = [UInt8.ofNat (m % 128 + 128)].map k'27 from rfl, ← List.map_append]; exact byte_fits _) (by decide) rfl hml rfl) rfl rfl ?_
  refine k'1 (.assignOwn (.inl rfl) rfl) rfl rfl ?_
  refine Y ?_
  rw [show Int.fdiv (m : Int) (2 ^ min 7 IntKind.u64.bits) = ((m / 128 : Nat) : Int) from shrN m 7 (by omega)]
  exact ⟨(f, m / 128, acc ++ [UInt8.ofNat (m % 128 + 128)]), by show m / 128 < m; omega, ⟨by rw [i1, hst]; simp, by show m / 128 < 128 ^ (f + 1); rw [Nat.pow_succ] at i2; omega, by show (acc ++ [_]).length + f = 9; simp; omega, by show m / 128 < 2 ^ 64; omega⟩, ⟨rfl, by show T.own _ _ = owT _; rw [List.map_append]; rfl, trivial⟩, rfl, k'z rfl⟩
 ·have hm : m < 128 := by have := of_decide_eq_false hc; omega
  have hst : vput f m = [UInt8.ofNat m] := by
   cases f with
   | zero => rfl
   | succ f => show (if m < 128 then _ else _) = _; rw [if_pos hm]
  have hb : IntKind.u8.wrap (m : Int) = ((UInt8.ofNat m).toNat : Int) := by rw [k'3z (by omega)]; exact wrapB (by omega) (by omega)
  refine Y ?_
  (try refine k'1t rfl ?_)
  refine k'1 (.assignOwn (.inr rfl) rfl) rfl rfl ?_
  refine Y ?_
  rw [hb]
  refine k'1 (.buildSlice (es := [k'27 (UInt8.ofNat m)]) rfl rfl rfl rfl rfl rfl (by intro x hx; simp at hx; subst hx; rfl) (by simp) (by decide) (by decide)) rfl rfl ?_
  have hml : (acc.map k'27).length + [k'27 (UInt8.ofNat m)].length ≤ most := by simp [most]; omega
  refine k'1 (.append' rfl rfl rfl rfl ⟨_, _, rfl, rfl, by intro q; simp⟩ rfl rfl rfl rfl rfl (by rw [show [k'27 (UInt8.ofNat m)] = [UInt8.ofNat m].map k'27 from rfl, ← List.map_append]; exact byte_fits _) (by decide) rfl hml rfl) rfl rfl ?_
  refine k'1 (.toStr (l := acc ++ [UInt8.ofNat m]) rfl rfl rfl rfl rfl rfl rfl (by show some _ = some _; rw [List.map_append]; rfl) (by intro s h; cases h)) rfl rfl ?_
  rw [i1, hst]
  exact Z
theorem rTag_calls (n k : Nat) (h1 : 1 ≤ n) (h2 : n ≤ 536870911) (h3 : k ≤ 5) : k'0 (cx B) 84 [iT n, iT k] [] (sT (tagV n k)) [] := by
 have hor : IntKind.u64.wrap ((BitVec.ofInt IntKind.u64.bits (IntKind.u64.wrap (IntKind.u64.wrap (n : Int) * 2 ^ min 3 IntKind.u64.bits)) ||| BitVec.ofInt IntKind.u64.bits (IntKind.u64.wrap (k : Int))).toNat : Int) = ((8 * n + k : Nat) : Int) := by
  have e1 : IntKind.u64.wrap (IntKind.u64.wrap (n : Int) * 2 ^ min 3 IntKind.u64.bits) = ((n * 2 ^ 3 : Nat) : Int) := by
   rw [wrapN (n := n) (by omega), show (n : Int) * 2 ^ min 3 IntKind.u64.bits = ((n * 2 ^ 3 : Nat) : Int) by simp [IntKind.bits]]
   exact wrapN (by omega)
  rw [e1, wrapN (n := k) (by omega), BitVec.or_comm, or64 (i := 3) (by omega) (by omega)]
  congr 1; omega
 refine l_bw Tryz.func84 0 [] ?_
 rw [show decide ((n : Int) < 1) = false from decide_eq_false (by omega)]
 refine Y ?_
 rw [show decide ((n : Int) ≥ 536870912) = false from decide_eq_false (by omega)]
 refine Y ?_
 rw [show decide ((k : Int) < 0) = false from decide_eq_false (by omega)]
 refine Y ?_
 rw [show decide ((k : Int) > 5) = false from decide_eq_false (by omega)]
 refine Y ?_
 rw [hor]
 refine k'2 [] (k'2y B (8 * n + k) (by omega)) rfl rfl rfl ?_
 exact Z
theorem tagV_nil (n k : Nat) : (tagV n k == []) = false := by cases h : tagV n k with | nil => exact absurd h (putV_ne _) | cons _ _ => rfl
theorem k'3r (n m : Nat) (h1 : 1 ≤ n) (h2 : n ≤ 536870911) (hm : m < 2 ^ 64) : k'0 (cx B) 86 [iT n, uT m] [] (sT (tagV n 0 ++ putV m)) [] := by
 have l1 := k'1e m
 have l2 := k'1e (8 * n + 0)
 refine l_bw Tryz.func86 0 [] ?_
 refine l_cw [] (rTag_calls B n 0 h1 h2 (by omega)) rfl rfl rfl ?_
 rw [tagV_nil]
 refine Y ?_
 refine l_cw [] (k'2y B m hm) rfl rfl rfl ?_
 refine k'1 (.addStr (a := tagV n 0) (b := putV m) rfl rfl rfl (by unfold tagV; omega)) rfl rfl ?_
 exact Z
theorem k'7 (n : Nat) (s : List UInt8) (h1 : 1 ≤ n) (h2 : n ≤ 536870911) (hs : s.length < big) : k'0 (cx B) 41 [iT n, sT s] [] (sT (tagV n 2 ++ (putV s.length ++ s))) [] := by
 have l1 := k'1e s.length
 have l2 := k'1e (8 * n + 2)
 unfold big at hs
 refine l_bw Tryz.func41 0 [] ?_
 refine l_cw [] (rTag_calls B n 2 h1 h2 (by omega)) rfl rfl rfl ?_
 rw [tagV_nil]
 refine Y ?_
 rw [wrapN (n := s.length) (by omega)]
 refine l_cw [] (k'2y B s.length (by omega)) rfl rfl rfl ?_
 refine k'1 (.addStr (a := tagV n 2) (b := putV s.length) rfl rfl rfl (by unfold tagV; omega)) rfl rfl ?_
 refine Y ?_
 refine k'1 (.addStr rfl rfl rfl (by unfold tagV; simp; omega)) rfl rfl ?_
 rw [List.append_assoc]
 exact Z
theorem rZig_calls (o : Int) (h1 : -2147483648 ≤ o) (h2 : o < 2147483648) : k'0 (cx B) 439 [.d (.int .i64 o)] [] (uT (k'2o o)) [] := by
 unfold k'2o
 refine l_bw Tryz.func439 0 [] ?_
 by_cases h : o < 0
 ·rw [show decide (o < 0) = true from decide_eq_true h, if_neg (by omega)]
  refine Y ?_
  rw [show IntKind.i64.wrap (o + 1) = o + 1 from k'10 (by omega) (by omega), show IntKind.i64.wrap (0 - (o + 1)) = -(o + 1) by rw [k'10 (by omega) (by omega)]; omega,
   show IntKind.u64.wrap (-(o + 1)) = -(o + 1) from wrapU (by omega) (by omega), show IntKind.u64.wrap (-(o + 1) * 2) = -(o + 1) * 2 from wrapU (by omega) (by omega), show IntKind.u64.wrap (-(o + 1) * 2 + 1) = (((-2 * o - 1).toNat : Nat) : Int) by rw [wrapU (by omega) (by omega)]; omega]
  exact k'i rfl
 ·rw [show decide (o < 0) = false from decide_eq_false h, if_pos (by omega)]
  refine Y ?_
  rw [show IntKind.u64.wrap o = o from wrapU (by omega) (by omega), show IntKind.u64.wrap (o * 2) = (((2 * o).toNat : Nat) : Int) by rw [wrapU (by omega) (by omega)]; omega]
  exact k'i rfl
theorem rZig32_calls (o : Int) (h1 : -2147483648 ≤ o) (h2 : o < 2147483648) : k'0 (cx B) 404 [.d (.int .i32 o)] [] (uT (k'2o o)) [] := by
 refine l_bw Tryz.func404 0 [] ?_
 rw [show IntKind.i64.wrap o = o from k'10 (by omega) (by omega)]
 refine k'2 [] (rZig_calls B o h1 h2) rfl rfl rfl ?_
 exact Z
theorem k'18 (n m : Nat) (h1 : 1 ≤ n) (h2 : n ≤ 536870911) (hm : m < 2 ^ 64) : k'0 (cx B) 42 [iT n, uT m] [] (sT (vrV n m)) [] := by
 unfold vrV
 refine l_bw Tryz.func42 0 [] ?_
 by_cases h : m = 0
 ·rw [if_pos h, show ((m : Int) == 0) = true by rw [h]; rfl]
  exact Z
 ·rw [if_neg h, show ((m : Int) == 0) = false by simp; omega]
  refine Y ?_
  refine k'2 [] (k'3r B n m h1 h2 hm) rfl rfl rfl ?_
  exact Z
theorem k'j (n : Nat) (s : List UInt8) (h1 : 1 ≤ n) (h2 : n ≤ 536870911) (hs : s.length < big) : k'0 (cx B) 43 [iT n, sT s] [] (sT (if s = [] then [] else tagV n 2 ++ (putV s.length ++ s))) [] := by
 refine l_bw Tryz.func43 0 [] ?_
 by_cases h : s = []
 ·rw [if_pos h, show (s == []) = true by rw [h]; rfl]
  exact Z
 ·rw [if_neg h, show (s == []) = false by cases s with | nil => exact absurd rfl h | cons _ _ => rfl]
  refine Y ?_
  refine k'2 [] (k'7 B n s h1 h2 hs) rfl rfl rfl ?_
  exact Z
theorem PutVarints_calls (z : Bool) (n : Nat) (cs : List Nat) (h1 : 1 ≤ n) (h2 : n ≤ 536870911) (hc : ∀ m ∈ cs, m < 2 ^ 64) (hl : 10 * cs.length < big) : k'0 (cx B) 448 [iT n, .d (.sl z (cs.map uD))] [] (sT (pkV n cs)) [] := by
 have hlen : (cs.map uD).length = cs.length := by simp
 have hpl := packV_len cs
 unfold big at hl
 refine l_bw Tryz.func448 0 [] ?_
 refine k'8 (fun i : Nat => cs.length - i) (fun i => [(0, iT n), (1, .d (.sl z (cs.map uD))), (5, sT (packV (cs.take i))), (6, iT i)]) (fun _ => []) (fun i => i ≤ cs.length) 0 (by omega) ⟨rfl, rfl, rfl, rfl, trivial⟩ rfl 0 rfl (fun _ => rfl) (fun _ => rfl) (fun _ => rfl) ?_
 intro i i1
 refine Y ?_
 rw [hlen]
 refine k'13 rfl (fun hd => ?_) (fun hd => ?_)
 ·have hlt : i < cs.length := by have := of_decide_eq_true hd; omega
  obtain ⟨x, hx⟩ : ∃ x, cs[i]? = some x := ⟨_, List.getElem?_eq_getElem hlt⟩
  have hdx : (cs.map uD)[i]? = some (uD x) := by rw [List.getElem?_map, hx]; rfl
  have htk := packV_len (cs.take i)
  have hpx := k'1e x
  have hpk : packV (cs.take i) ++ putV x = packV (cs.take (i + 1)) := by rw [List.take_add_one, hx]; simp [packV]
  refine Y ?_
  refine k'1 (.indexAddr (k := .i64) (n := i) (es := cs.map uD) (u := uD x) rfl rfl rfl rfl (.inl ⟨_, rfl⟩) rfl (by omega) (by simpa using hdx) rfl (by decide)) rfl rfl ?_
  refine Y ?_
  refine l_cw [] (k'2y B x (hc x (List.mem_of_getElem? hx))) rfl rfl rfl ?_
  refine k'1 (.addStr (a := packV (cs.take i)) (b := putV x) rfl rfl rfl (by simp at htk; omega)) rfl rfl ?_
  rw [hpk]
  refine Y ?_
  rw [wS i (by omega)]
  exact ⟨i + 1, by omega, by omega, ⟨rfl, rfl, rfl, rfl, trivial⟩, rfl, k'z rfl⟩
 ·have hge : i = cs.length := by have := of_decide_eq_false hd; omega
  subst hge
  rw [List.take_length]
  have h3 := k'j B n (packV cs) h1 h2 (by unfold big; omega)
  rw [show (if packV cs = [] then [] else tagV n 2 ++ (putV (packV cs).length ++ packV cs)) = pkV n cs by
   unfold pkV
   cases cs with
   | nil => rfl
   | cons c cs => rw [if_neg (by simp [packV, putV_ne]), if_neg (by simp)]] at h3
  refine Y ?_
  refine k'2 [] (h3) rfl rfl rfl ?_
  exact Z
theorem rBuckets_calls (z : Bool) (o : Int) (cs : List Nat) (u : List UInt8) (h1 : -2147483648 ≤ o) (h2 : o < 2147483648) (hc : ∀ m ∈ cs, m < 2 ^ 64) (hl : 10 * cs.length + u.length + 100 < big) : k'0 (cx B) 440 [.d (bkZ z o cs u)] [] (sT (marB o cs u)) [] := by
 have hv := k'3d 1 (k'2o o)
 have hp := pkV_len 2 cs
 have c1 := rZig32_calls B o h1 h2
 have c2 := k'18 B 1 (k'2o o) (by omega) (by omega) (zig32_lt o h1 h2)
 have c3 := PutVarints_calls B z 2 cs (by omega) (by omega) hc (by unfold big at *; omega)
 unfold big at hl
 refine l_bw Tryz.func440 0 [] ?_
 refine x_cw [] (c1) rfl rfl rfl ?_
 refine x_cw [] (c2) rfl rfl rfl ?_
 refine x_cw [] (c3) rfl rfl rfl ?_
 refine k'12 (.addStr (a := vrV 1 (k'2o o)) (b := pkV 2 cs) rfl rfl rfl (by omega)) rfl rfl rfl ?_
 refine Y ?_
 refine k'12 (.addStr rfl rfl rfl (by simp; omega)) rfl rfl rfl ?_
 exact Z
def unkOk (tbl : List Nat) (s : List UInt8) (d : Int) : Bool :=
 match okL s d with
 | some l => !(l.any fun r => tkB tbl r.num r.kind)
 | none => false
theorem k'c (tbl : List Nat) (hb : tbl.length < 1000) (ht : ∀ t ∈ tbl, t < 100000) (s : List UInt8) (d : Int) (hl : s.length < big) (hd1 : -9223372036854775808 ≤ d) (hd2 : d < 9223372036854775808) : k'0 (cx B) 50 [sT s, .d (.int .i64 d), .d (.sl false (tbl.map iD))] [] (.d (.bool (unkOk tbl s d))) [] := by
 have h1 := Fields_calls B s d hl hd1 hd2
 unfold big at hl
 unfold unkOk
 unfold fieldsT at h1
 cases ho : okL s d with
 | none =>
  rw [ho] at h1
  dsimp only at h1 ⊢
  refine l_bw Tryz.func50 0 [] ?_
  refine l_cw [] (h1) rfl rfl rfl ?_
  refine k'8 (fun _ : Unit => 0) (fun _ => [(7, .d (.sl true [])), (8, .d (.bool false)), (9, iT 0)]) (fun _ => []) (fun _ => True) () trivial ⟨rfl, rfl, rfl, trivial⟩ rfl 0 rfl (fun _ => rfl) (fun _ => rfl) (fun _ => rfl) ?_
  intro _ _
  exact Z
 | some l =>
  rw [ho] at h1
  obtain ⟨w1, w2⟩ := okL_wt ho
  dsimp only at h1 ⊢
  have hlen : (l.map Fld.d).length = l.length := by simp
  have hlok : LOk l := ⟨w2, by unfold big; omega⟩
  have hlb := hlok.len
  refine l_bw Tryz.func50 0 [] ?_
  refine l_cw [] (h1) rfl rfl rfl ?_
  refine k'8 (fun i : Nat => l.length - i) (fun i => [(2, .d (.sl false (tbl.map iD))), (7, .d (slD (l.map Fld.d))), (8, .d (.bool true)), (9, iT i)]) (fun _ => []) (fun i => i ≤ l.length ∧ (l.take i).any (fun r => tkB tbl r.num r.kind) = false) 0 ⟨by omega, rfl⟩ ⟨rfl, rfl, rfl, rfl, trivial⟩ rfl 0 rfl (fun _ => rfl) (fun _ => rfl) (fun _ => rfl) ?_
  rintro i ⟨i1, i2⟩
  refine Y ?_
  rw [hlen]
  refine k'13 rfl (fun hc => ?_) (fun hc => ?_)
  ·have hlt : i < l.length := by have := of_decide_eq_true hc; omega
   obtain ⟨x, hx⟩ : ∃ x, l[i]? = some x := ⟨_, List.getElem?_eq_getElem hlt⟩
   have hdx : (l.map Fld.d)[i]? = some x.d := by rw [List.getElem?_map, hx]; rfl
   have h3 := Takes_calls B tbl x hb ht
   refine Y ?_
   refine k'1 (.indexAddr (k := .i64) (n := i) (es := l.map Fld.d) (u := x.d) rfl rfl rfl rfl (.inl ⟨_, rfl⟩) rfl (by omega) (by simpa using hdx) rfl (by decide)) rfl rfl ?_
   refine Y ?_
   refine l_cw [] (h3) rfl rfl rfl ?_
   cases hk : tkB tbl x.num x.kind
   rotate_left
   ·rw [show (l.any fun r => tkB tbl r.num r.kind) = true from List.any_eq_true.2 ⟨x, List.mem_of_getElem? hx, hk⟩]
    exact Z
   refine Y ?_
   rw [wS i (by omega)]
   exact ⟨i + 1, by omega, ⟨by omega, by rw [List.take_add_one, hx, List.any_append, i2]; simp [hk]⟩, ⟨rfl, rfl, rfl, rfl, trivial⟩, rfl, k'z rfl⟩
  ·have hge : i = l.length := by have := of_decide_eq_false hc; omega
   subst hge
   rw [List.take_length] at i2
   rw [i2]
   exact Z
theorem any_tk : ∀ {l : List Fld}, (∀ x ∈ l, FOk x) → (l.any fun r => tkB [8, 16, 18] r.num r.kind) = l.any fun r => tbB r.num r.kind
 | [], _ => rfl
 | x :: l, h => by
  simp only [List.any_cons]
  rw [tk_B _ _ (h x (List.mem_cons_self ..)).kind, any_tk fun y hy => h y (List.mem_cons_of_mem _ hy)]
theorem unk_may (s : List UInt8) (d : Int) : unkOk [8, 16, 18] s d = mayB s d := by
 unfold unkOk okL mayB k'1a
 by_cases hd : d < 0
 ·rw [if_pos hd, decide_eq_false (by omega)]; rfl
 ·rw [if_neg hd, decide_eq_true (show d ≥ 0 by omega)]
  cases ha : all s d with
  | error e => rfl
  | ok l =>
   simp only [Bool.true_and]
   rw [any_tk (allE_fok ha)]
theorem rMay_calls (z : Bool) (o : Int) (cs : List Nat) (u : List UInt8) (d : Int) (hu : u.length < big) (hd1 : -9223372036854775808 ≤ d) (hd2 : d < 9223372036854775808) : k'0 (cx B) 270 [.d (bkZ z o cs u), .d (.int .i64 d)] [] (.d (.bool (mayB u d))) [] := by
 have h1 := k'c B [8, 16, 18] (by decide) (by intro t ht; simp at ht; omega) u d hu hd1 hd2
 rw [unk_may] at h1
 refine l_bw Tryz.func270 0 [] ?_
 refine xw ?_
 by_cases hd : d ≥ 0
 ·rw [show decide (d ≥ 0) = true from decide_eq_true hd]
  refine Y ?_
  refine x_cw [] (buckets_calls B) rfl rfl rfl ?_
  refine k'3 [] (h1) rfl rfl rfl ?_
  exact Z
 ·rw [show decide (d ≥ 0) = false from decide_eq_false hd, show mayB u d = false by unfold mayB; rw [decide_eq_false hd]; rfl]
  exact Z
end
