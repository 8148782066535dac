/- The reference: numbers, values and attributes written. -/
import Derived.Test.YtcfkbpddmdfbaaaGreatDoorRM
set_option linter.unusedSimpArgs false
set_option linter.unusedVariables false
set_option maxRecDepth 100000
namespace Go.Proofs.YtcfkbpddmdfbaaaGreatDoor
open Go Go.Abs
theorem leB_snoc : ∀ k n : Nat, leB (k + 1) n = leB k n ++ [UInt8.ofNat (n / 256 ^ k % 256)]
 | 0, n => by simp [leB]
 | k + 1, n => by
  show UInt8.ofNat (n % 256) :: leB (k + 1) (n / 256) = (UInt8.ofNat (n % 256) :: leB k (n / 256)) ++ _
  rw [leB_snoc k (n / 256), Nat.div_div_eq_div_mul, ← Nat.pow_succ']; rfl
theorem psV_num (n : Nat) : ∀ l : List (List UInt8), l.length ≤ (psV n l).length
 | [] => Nat.le_refl _
 | s :: l => by
  have := psV_num n l
  have := k'1e (8 * n + 2)
  rw [psV_cons, List.length_append]
  have : 1 ≤ (paV n s).length := by
   unfold paV tagV
   cases h : putV (8 * n + 2) with
   | nil => exact absurd h (putV_ne _)
   | cons a b => simp
  simp; omega
theorem k'3w (n : Nat) {ms : List (List UInt8)} {i : Nat} {s : List UInt8} (h : ms[i]? = some s) : psV n (ms.take i) ++ (tagV n 2 ++ (putV s.length ++ s)) = psV n (ms.take (i + 1)) ∧ (psV n (ms.take i)).length + (tagV n 2 ++ (putV s.length ++ s)).length ≤ (psV n ms).length ∧ s.length ≤ (psV n ms).length := by
 have e1 : psV n (ms.take i) ++ (tagV n 2 ++ (putV s.length ++ s)) = psV n (ms.take (i + 1)) := by rw [List.take_add_one, h]; simp [psV, paV]
 have e2 : (psV n (ms.take i)).length + (tagV n 2 ++ (putV s.length ++ s)).length ≤ (psV n ms).length := by
  rw [← List.length_append, e1]
  have : psV n ms = psV n (ms.take (i + 1)) ++ psV n (ms.drop (i + 1)) := by unfold psV; rw [← List.flatMap_append, List.take_append_drop]
  rw [this, List.length_append]; omega
 refine ⟨e1, e2, ?_⟩
 simp only [List.length_append] at e2
 omega
/-! What the reference writes of a value that may not be. -/
mutual
def Vl.fix : Vl → Vl
 | .mk kind s b n l m inner u => .mk kind s b (if kind = 2 then 0 else n) (Vl.fixes l) (Kv.fixes m) inner u
def Vl.fixes : List Vl → List Vl
 | [] => []
 | v :: r => v.fix :: Vl.fixes r
def Kv.fix : Kv → Kv
 | .mk key has v u => .mk key has v.fix u
def Kv.fixes : List Kv → List Kv
 | [] => []
 | k :: r => k.fix :: Kv.fixes r
end
theorem Vl.fixes_map : ∀ l : List Vl, Vl.fixes l = l.map Vl.fix
 | [] => rfl
 | v :: l => by rw [Vl.fixes, Vl.fixes_map l]; rfl
theorem Kv.fixes_map : ∀ l : List Kv, Kv.fixes l = l.map Kv.fix
 | [] => rfl
 | v :: l => by rw [Kv.fixes, Kv.fixes_map l]; rfl
mutual
theorem Vl.fix_sz : ∀ v : Vl, v.fix.sz = v.sz
 | .mk kind s b n l m inner u => by unfold Vl.fix Vl.sz; rw [Vl.fixes_sz l, Kv.fixes_sz m]
theorem Vl.fixes_sz : ∀ l : List Vl, Vl.szs (Vl.fixes l) = Vl.szs l
 | [] => rfl
 | v :: r => by unfold Vl.fixes Vl.szs; rw [Vl.fix_sz v, Vl.fixes_sz r]
theorem Kv.fix_sz : ∀ k : Kv, k.fix.sz = k.sz
 | .mk key has v u => by unfold Kv.fix Kv.sz; rw [Vl.fix_sz v]
theorem Kv.fixes_sz : ∀ l : List Kv, Kv.szs (Kv.fixes l) = Kv.szs l
 | [] => rfl
 | v :: r => by unfold Kv.fixes Kv.szs; rw [Kv.fix_sz v, Kv.fixes_sz r]
end
mutual
theorem Vl.fix_may : ∀ (v : Vl) (d : Int), v.may d = true → v.fix = v
 | .mk kind s b n l m inner u, d, h => by
  have hl := Vl.fixes_may l (d - 2)
  have hm := Kv.fixes_may m (d - 2)
  unfold Vl.may at h
  simp only [Bool.and_eq_true, decide_eq_true_eq] at h
  obtain ⟨⟨⟨-, hb⟩, -⟩, hi⟩ := h
  unfold Vl.fix
  by_cases hk : kind = 5 ∨ kind = 6
  ·rw [if_pos hk] at hi
   simp only [Bool.and_eq_true] at hi
   rw [hl hi.1.2, hm hi.2, if_neg (by omega)]
  ·have h0 : l.length = 0 ∧ m.length = 0 ∧ (kind = 2 → n = 0) := by
    unfold k'1l k'1s at hb
    (repeat' split at hb) <;> simp_all
   obtain ⟨z1, z2, z3⟩ := h0
   rw [List.eq_nil_of_length_eq_zero z1, List.eq_nil_of_length_eq_zero z2]
   by_cases h2 : kind = 2
   ·rw [if_pos h2, z3 h2]; rfl
   ·rw [if_neg h2]; rfl
theorem Vl.fixes_may : ∀ (l : List Vl) (d : Int), Vl.mays l d = true → Vl.fixes l = l
 | [], _, _ => rfl
 | v :: r, d, h => by
  unfold Vl.mays at h
  simp only [Bool.and_eq_true] at h
  unfold Vl.fixes
  rw [Vl.fix_may v d h.1, Vl.fixes_may r d h.2]
theorem Kv.fix_may : ∀ (k : Kv) (d : Int), k.may d = true → k.fix = k
 | .mk key has v u, d, h => by
  have hv := Vl.fix_may v (d - 1)
  unfold Kv.may at h
  simp only [Bool.and_eq_true] at h
  unfold Kv.fix
  cases has with
  | true => rw [hv h.2]
  | false => rw [Vl.isNo_eq h.2]; rfl
theorem Kv.fixes_may : ∀ (l : List Kv) (d : Int), Kv.mays l d = true → Kv.fixes l = l
 | [], _, _ => rfl
 | v :: r, d, h => by
  unfold Kv.mays at h
  simp only [Bool.and_eq_true] at h
  unfold Kv.fixes
  rw [Kv.fix_may v d h.1, Kv.fixes_may r d h.2]
end
variable (B : Fr)
theorem rEight_calls (n : Nat) (hn : n < 2 ^ 64) : k'0 (cx B) 422 [uT n] [] (sT (le8 n)) [] := by
 refine l_bw Tryz.func422 0 [] ?_
 refine k'8 (fun i : Nat => 8 - i) (fun i => [(0, uT n), (3, owT ((leB i n).map k'27)), (4, iT i)]) (fun _ => []) (fun i => i ≤ 8) 0 (by omega) ⟨rfl, rfl, rfl, trivial⟩ rfl 0 rfl (fun _ => rfl) (fun _ => rfl) (fun _ => rfl) ?_
 intro i i1
 have hll := leB_len i n
 by_cases hlt : i < 8
 ·have hsn := leB_snoc i n
  have hw1 : IntKind.i64.wrap (8 * (i : Int)) = ((8 * i : Nat) : Int) := by rw [k'10 (by omega) (by omega)]; omega
  have hw2 : IntKind.u64.wrap ((8 * i : Nat) : Int) = ((8 * i : Nat) : Int) := wrapN (by omega)
  have hb : IntKind.u8.wrap (Int.fdiv (n : Int) (2 ^ min (8 * i) IntKind.u64.bits)) = ((UInt8.ofNat (n / 256 ^ i % 256)).toNat : Int) := by
   rw [shrN n (8 * i) (by omega), k'3z (by omega), show (2 : Nat) ^ (8 * i) = 256 ^ i by rw [Nat.pow_mul]]
   rw [IntKind.wrap_u8]; omega
  refine Y ?_
  rw [show decide ((i : Int) < 8) = true from decide_eq_true (by omega)]
  refine Y ?_
  (try refine k'1t rfl ?_)
  refine k'1 (.assignOwn (.inr rfl) rfl) rfl rfl ?_
  refine Y ?_
  rw [hw1, hw2]
  refine k'1 (.shr (k := .u64) (j := .u64) (a := n) (b := ((8 * i : Nat) : Int)) rfl rfl rfl (by omega)) rfl rfl ?_
  refine Y ?_
  rw [Int.toNat_natCast, hb]
  refine k'1 (.buildSlice (es := [k'27 (UInt8.ofNat (n / 256 ^ i % 256))]) rfl rfl rfl rfl rfl rfl (by intro x hx; simp at hx; subst hx; rfl) (by simp) (by decide) (by decide)) rfl rfl ?_
  have hml : ((leB i n).map k'27).length + [k'27 (UInt8.ofNat (n / 256 ^ i % 256))].length ≤ most := by simp [most, hll]; omega
  refine k'1 (.append' rfl rfl rfl rfl ⟨_, _, rfl, rfl, by intro q; simp⟩ rfl rfl rfl rfl rfl (by rw [show [k'27 (UInt8.ofNat (n / 256 ^ i % 256))] = [UInt8.ofNat (n / 256 ^ i % 256)].map k'27 from rfl, ← List.map_append]; exact byte_fits _) (by decide) rfl hml rfl) rfl rfl ?_
  refine k'1 (.assignOwn (.inl rfl) rfl) rfl rfl ?_
  refine Y ?_
  rw [wS i (by omega)]
  exact ⟨i + 1, by omega, by omega, ⟨rfl, by rw [hsn]; show T.own _ _ = owT _; rw [List.map_append]; rfl, rfl, trivial⟩, rfl, k'z rfl⟩
 ·have : i = 8 := by omega
  subst this
  refine Y ?_
  (try refine k'1t rfl ?_)
  refine k'1 (.toStr (l := leB 8 n) rfl rfl rfl rfl rfl rfl rfl rfl (by intro s h; cases h)) rfl rfl ?_
  exact Z
theorem k'1y (n m : Nat) (h1 : 1 ≤ n) (h2 : n ≤ 536870911) (hm : m < 2 ^ 64) : k'0 (cx B) 353 [iT n, uT m] [] (sT (e8V n m)) [] := by
 have l1 := k'3x m
 have l2 := k'1e (8 * n + 1)
 refine l_bw Tryz.func353 0 [] ?_
 refine l_cw [] (rTag_calls B n 1 h1 h2 (by omega)) rfl rfl rfl ?_
 rw [tagV_nil]
 refine Y ?_
 refine l_cw [] (rEight_calls B m hm) rfl rfl rfl ?_
 refine k'1 (.addStr (a := tagV n 1) (b := le8 m) rfl rfl rfl (by unfold tagV; omega)) rfl rfl ?_
 exact Z
theorem k'e (n m : Nat) (h1 : 1 ≤ n) (h2 : n ≤ 536870911) (hm : m < 2 ^ 64) : k'0 (cx B) 399 [iT n, uT m] [] (sT (fxV n m)) [] := by
 unfold fxV
 refine l_bw Tryz.func399 0 [] ?_
 by_cases h : m = 0
 ·rw [if_pos h, show ((m : Int) == 0) = true by rw [h]; rfl]
  exact Z
 ·rw [if_neg h, show ((m : Int) == 0) = false by simp; omega]
  refine Y ?_
  refine k'2 [] (k'1y B n m h1 h2 hm) rfl rfl rfl ?_
  exact Z
theorem if1_calls (b : Bool) (s : List UInt8) : k'0 (cx B) 400 [.d (.bool b), sT s] [] (sT (if b then s else [])) [] := by
 cases b
 rotate_left
 ·refine l_b0 Tryz.func400 0 [] ?_
  exact Z
 refine l_b0 Tryz.func400 0 [] ?_
 exact Z
theorem PutKeys_L (n : Nat) (h1 : 1 ≤ n) (h2 : n ≤ 536870911) (z : Bool) (xs : List D) (ms : List (List UInt8)) (hl : ms.length = xs.length) (hx : ∀ x ∈ xs, KeSh x) (hb : (psV n ms).length < big) (hf : ∀ (i : Nat) x s, xs[i]? = some x → ms[i]? = some s → k'0 (cx B) 200 [.d x] [] (sT s) []) :
  k'0 (cx B) 150 [iT n, .d (.sl z xs)] [] (sT (psV n ms)) [] := by
 have hxl := psV_num n ms
 unfold big at hb
 refine l_bw Tryz.func150 0 [] ?_
 refine k'8 (fun i : Nat => xs.length - i) (fun i => [(0, iT n), (1, .d (.sl z xs)), (5, sT (psV n (ms.take i))), (6, iT i)]) (fun _ => []) (fun i => i ≤ xs.length) 0 (by omega) ⟨rfl, rfl, rfl, rfl, trivial⟩ rfl 0 rfl (fun _ => rfl) (fun _ => rfl) (fun _ => rfl) ?_
 intro i i1
 refine Y ?_
 by_cases hlt : i < xs.length
 ·rw [show decide ((i : Int) < xs.length) = true from decide_eq_true (by omega)]
  obtain ⟨x, hxi⟩ : ∃ x, xs[i]? = some x := ⟨_, List.getElem?_eq_getElem hlt⟩
  obtain ⟨s, hsi⟩ : ∃ s, ms[i]? = some s := ⟨_, List.getElem?_eq_getElem (by omega)⟩
  have hc := hf i x s hxi hsi
  obtain ⟨e1, e2, e3⟩ := k'3w n hsi
  obtain ⟨x0, x1, x2, x3, x4, x5, x6, x7, x8, x9, x10, x11, x12, rfl⟩ := hx x (List.mem_of_getElem? hxi)
  have hB := k'7 B n s h1 h2 (by unfold big; omega)
  refine Y ?_
  refine k'1 (.indexAddr (k := .i64) (n := i) (es := xs) rfl rfl rfl rfl (.inl ⟨_, rfl⟩) rfl (by omega) (by simpa using hxi) rfl (by decide)) rfl rfl ?_
  refine Y ?_
  refine l_cw [] (hc) rfl rfl rfl ?_
  refine l_cw [] (hB) rfl rfl rfl ?_
  refine k'1 (.addStr (a := psV n (ms.take i)) (b := tagV n 2 ++ (putV s.length ++ s)) rfl rfl rfl (by omega)) rfl rfl ?_
  rw [e1]
  refine Y ?_
  rw [wS i (by omega)]
  exact ⟨i + 1, by omega, by omega, ⟨rfl, rfl, rfl, rfl, trivial⟩, rfl, k'z rfl⟩
 ·rw [show decide ((i : Int) < xs.length) = false from decide_eq_false (by omega), List.take_of_length_le (by omega)]
  exact Z
def VWat (n : Nat) : Prop := ∀ (a : Vl) (xa : D), a.sz < n → a.sz < big → a.wf → a.R xa → k'0 (cx B) 265 [.d xa] [] (sT a.fix.mar) []
def KWat (n : Nat) : Prop := ∀ (a : Kv) (xa : D), a.sz < n → a.sz < big → a.wf → a.R xa → k'0 (cx B) 200 [.d xa] [] (sT a.fix.mar) []
theorem PutKeys_of (n num : Nat) (h1 : 1 ≤ num) (h2 : num ≤ 536870911) (hK : KWat B n) (l : List Kv) (z : Bool) (xs : List D) (hs : ∀ k ∈ l, k.sz < n) (hb : Kv.szs l < big) (hw : ∀ k ∈ l, k.wf) (hR : Kv.Rs l xs) : k'0 (cx B) 150 [iT num, .d (.sl z xs)] [] (sT (psV num (Kv.mars (Kv.fixes l)))) [] := by
 have hla := Kv.Rs_len hR
 have hpl := Kv.marsP_len num (Kv.fixes l)
 rw [Kv.fixes_sz] at hpl
 refine PutKeys_L B num h1 h2 z xs (Kv.mars (Kv.fixes l)) (by rw [Kv.mars_map, List.length_map, Kv.fixes_map, List.length_map, hla]) (Kv.Rs_sh hR) (by omega) fun i x s hx hs' => ?_
 rw [Kv.mars_map, List.getElem?_map, Kv.fixes_map, List.getElem?_map] at hs'
 obtain ⟨v, hv, r⟩ := Kv.Rs_at hR hx
 rw [hv] at hs'
 injection hs' with hs'; subst hs'
 have hmem := List.mem_of_getElem? hv
 have := Kv.sz_mem hmem
 exact hK v x (hs v hmem) (by omega) (hw v hmem) r
theorem Pack_of (n : Nat) (hK : KWat B n) (l : List Kv) (z : Bool) (xs : List D) (hs : ∀ k ∈ l, k.sz < n) (hb : Kv.szs l < big) (hw : ∀ k ∈ l, k.wf) (hR : Kv.Rs l xs) : k'0 (cx B) 354 [.d (.sl z xs)] [] (sT (psV 1 (Kv.mars (Kv.fixes l)))) [] := by
 have h1 := PutKeys_of B n 1 (by omega) (by omega) hK l z xs hs hb hw hR
 refine l_bw Tryz.func354 0 [] ?_
 refine k'2 [] (h1) rfl rfl rfl ?_
 exact Z
set_option maxHeartbeats 8000000 in
theorem rValue_at (n : Nat) (ihV : VWat B n) (ihK : KWat B n) : VWat B (n + 1) := by
 rintro ⟨kind, s, bb, nn, l, m, inner, u⟩ xa hsz hbig hwf ⟨zl, ls, zm, ms, rfl, hl, hm⟩
 have hmar := Vl.mar_len (Vl.fix (.mk kind s bb nn l m inner u))
 rw [Vl.fix_sz] at hmar
 obtain ⟨-, -, hn, hwl, hwm⟩ := hwf
 have hlen : (Vl.fix (Vl.mk kind s bb nn l m inner u)).mar.length < big := by omega
 unfold Vl.sz at hsz hbig
 have hla := Vl.Rs_len hl
 have hsh := Vl.Rs_sh hl
 have hll := Vl.len_szs l
 by_cases hko : kind < 0 ∨ 7 < kind
 ·have hno : ∀ c : Int, 1 ≤ c → c ≤ 7 → (kind == c) = false := fun c _ _ => by simp; omega
  have e : (Vl.fix (Vl.mk kind s bb nn l m inner u)).mar = u := by
   unfold Vl.fix Vl.mar
   rw [if_neg (by omega), if_neg (by omega), if_neg (by omega), if_neg (by omega), if_neg (by omega), if_neg (by omega), if_neg (by omega)]; rfl
  rw [e] at hlen ⊢
  refine l_bw Tryz.func265 0 [] ?_
  rw [hno 1 (by omega) (by omega)]
  refine Y ?_
  rw [hno 2 (by omega) (by omega)]
  refine Y ?_
  rw [hno 3 (by omega) (by omega)]
  refine Y ?_
  rw [hno 4 (by omega) (by omega)]
  refine Y ?_
  rw [hno 5 (by omega) (by omega)]
  refine Y ?_
  rw [hno 6 (by omega) (by omega)]
  refine Y ?_
  rw [hno 7 (by omega) (by omega)]
  refine Y ?_
  refine k'1 (.addStr rfl rfl rfl (by unfold big at hlen; simp; omega)) rfl rfl ?_
  exact Z
 have hk8 : kind = 0 ∨ kind = 1 ∨ kind = 2 ∨ kind = 3 ∨ kind = 4 ∨ kind = 5 ∨ kind = 6 ∨ kind = 7 := by omega
 rcases hk8 with rfl | rfl | rfl | rfl | rfl | rfl | rfl | rfl
 ·-- kind 0
  rw [show (Vl.fix (Vl.mk 0 s bb nn l m inner u)).mar = u from rfl] at hlen ⊢
  refine l_bw Tryz.func265 0 [] ?_
  refine k'1 (.addStr rfl rfl rfl (by unfold big at hlen; simp; omega)) rfl rfl ?_
  exact Z
 ·-- kind 1
  have c : k'0 (cx B) 41 [iT 1, sT s] [] (sT (paV 1 s)) [] := k'7 B 1 s (by omega) (by omega) (by omega)
  rw [show (Vl.fix (Vl.mk 1 s bb nn l m inner u)).mar = paV 1 s ++ u from rfl] at hlen ⊢
  generalize paV 1 s = P at *
  unfold big at hlen
  simp only [List.length_append] at hlen
  refine l_bw Tryz.func265 0 [] ?_
  refine l_cw [] (c) rfl rfl rfl ?_
  refine k'1 (.addStr rfl rfl rfl (by omega)) rfl rfl ?_
  exact Z
 ·-- kind 2
  cases bb
  rotate_left
  ·have c : k'0 (cx B) 86 [iT 2, uT 1] [] (sT (fewV 2 1)) [] := k'3r B 2 1 (by omega) (by omega) (by omega)
   rw [show (Vl.fix (Vl.mk 2 s true nn l m inner u)).mar = fewV 2 1 ++ u from rfl] at hlen ⊢
   generalize fewV 2 1 = P at *
   unfold big at hlen
   simp only [List.length_append] at hlen
   refine l_bw Tryz.func265 0 [] ?_
   refine l_cw [] (c) rfl rfl rfl ?_
   refine k'1 (.addStr rfl rfl rfl (by omega)) rfl rfl ?_
   exact Z
  have c : k'0 (cx B) 86 [iT 2, uT 0] [] (sT (fewV 2 0)) [] := k'3r B 2 0 (by omega) (by omega) (by omega)
  rw [show (Vl.fix (Vl.mk 2 s false nn l m inner u)).mar = fewV 2 0 ++ u from rfl] at hlen ⊢
  generalize fewV 2 0 = P at *
  unfold big at hlen
  simp only [List.length_append] at hlen
  refine l_bw Tryz.func265 0 [] ?_
  refine l_cw [] (c) rfl rfl rfl ?_
  refine k'1 (.addStr rfl rfl rfl (by omega)) rfl rfl ?_
  exact Z
 ·-- kind 3
  have c : k'0 (cx B) 86 [iT 3, uT nn] [] (sT (fewV 3 nn)) [] := k'3r B 3 nn (by omega) (by omega) hn
  rw [show (Vl.fix (Vl.mk 3 s bb nn l m inner u)).mar = fewV 3 nn ++ u from rfl] at hlen ⊢
  generalize fewV 3 nn = P at *
  unfold big at hlen
  simp only [List.length_append] at hlen
  refine l_bw Tryz.func265 0 [] ?_
  refine l_cw [] (c) rfl rfl rfl ?_
  refine k'1 (.addStr rfl rfl rfl (by omega)) rfl rfl ?_
  exact Z
 ·-- kind 4
  have c : k'0 (cx B) 353 [iT 4, uT nn] [] (sT (e8V 4 nn)) [] := k'1y B 4 nn (by omega) (by omega) hn
  rw [show (Vl.fix (Vl.mk 4 s bb nn l m inner u)).mar = e8V 4 nn ++ u from rfl] at hlen ⊢
  generalize e8V 4 nn = P at *
  unfold big at hlen
  simp only [List.length_append] at hlen
  refine l_bw Tryz.func265 0 [] ?_
  refine l_cw [] (c) rfl rfl rfl ?_
  refine k'1 (.addStr rfl rfl rfl (by omega)) rfl rfl ?_
  exact Z
 ·-- kind 5
  have hpl := Vl.mars_len (Vl.fixes l)
  rw [Vl.fixes_sz] at hpl
  have hql : (Vl.mars (Vl.fixes l)).length = ls.length := by rw [Vl.mars_map, List.length_map, Vl.fixes_map, List.length_map, hla]
  have hf : ∀ (i : Nat) x s, ls[i]? = some x → (Vl.mars (Vl.fixes l))[i]? = some s → k'0 (cx B) 265 [.d x] [] (sT s) [] := fun i x s hx hs => by
   rw [Vl.mars_map, List.getElem?_map, Vl.fixes_map, List.getElem?_map] at hs
   obtain ⟨v, hv, r⟩ := Vl.Rs_at hl hx
   rw [hv] at hs
   injection hs with hs; subst hs
   have hmem := List.mem_of_getElem? hv
   have := Vl.sz_mem hmem
   exact ihV v x (by omega) (by omega) (Vl.wf_mem hwl v hmem) r
  rw [show (Vl.fix (Vl.mk 5 s bb nn l m inner u)).mar = paV 5 (psV 1 (Vl.mars (Vl.fixes l)) ++ inner) ++ u from rfl] at hlen ⊢
  have hq : (psV 1 (Vl.mars (Vl.fixes l)) ++ inner).length ≤ (paV 5 (psV 1 (Vl.mars (Vl.fixes l)) ++ inner)).length := by unfold paV; simp; omega
  have c : k'0 (cx B) 41 [iT 5, sT (psV 1 (Vl.mars (Vl.fixes l)) ++ inner)] [] (sT (paV 5 (psV 1 (Vl.mars (Vl.fixes l)) ++ inner))) [] := k'7 B 5 (psV 1 (Vl.mars (Vl.fixes l)) ++ inner) (by omega) (by omega) (by simp only [List.length_append] at hlen hq ⊢; omega)
  generalize hms : Vl.mars (Vl.fixes l) = qs at *
  generalize paV 5 (psV 1 qs ++ inner) = P at *
  unfold big at hlen
  simp only [List.length_append] at hlen
  simp only [List.length_append] at hq
  unfold big at hbig
  have hsh0 : ls.length < 2 ^ 62 := by rw [hla]; omega
  refine l_bw Tryz.func265 0 [] ?_
  refine k'8 (fun i : Nat => ls.length - i) (fun i => [(1, .ptr 0 0), (3, sT []), (5, sT (psV 1 (qs.take i))), (6, iT i)]) (fun _ => _) (fun i => i ≤ ls.length) 0 (by omega) ⟨rfl, rfl, rfl, rfl, trivial⟩ rfl 1 rfl (fun _ => rfl) (fun _ => rfl) (fun _ => rfl) ?_
  intro i i1
  refine Y ?_
  by_cases hlt : i < ls.length
  ·rw [show decide ((i : Int) < ls.length) = true from decide_eq_true (by omega)]
   obtain ⟨x, hxi⟩ : ∃ x, ls[i]? = some x := ⟨_, List.getElem?_eq_getElem hlt⟩
   obtain ⟨t, hsi⟩ : ∃ t, qs[i]? = some t := ⟨_, List.getElem?_eq_getElem (by omega)⟩
   have hc := hf i x t hxi hsi
   obtain ⟨e1, e2, e3⟩ := k'3w 1 hsi
   have hB := k'7 B 1 t (by omega) (by omega) (by unfold big; omega)
   obtain ⟨x0, x1, x2, x3, x4, x5, x6, x7, x8, x9, rfl⟩ := hsh x (List.mem_of_getElem? hxi)
   refine Y ?_
   refine k'1 (.indexAddr (k := .i64) (n := i) (es := ls) rfl rfl rfl rfl (.inl ⟨_, rfl⟩) rfl (by omega) (by simpa using hxi) rfl (by decide)) rfl rfl ?_
   refine Y ?_
   refine l_cw [] (hc) rfl rfl rfl ?_
   refine l_cw [] (hB) rfl rfl rfl ?_
   refine k'1 (.addStr (a := psV 1 (qs.take i)) (b := tagV 1 2 ++ (putV t.length ++ t)) rfl rfl rfl (by omega)) rfl rfl ?_
   rw [e1]
   refine Y ?_
   rw [wS i (by omega)]
   exact ⟨i + 1, by omega, by omega, ⟨rfl, rfl, rfl, rfl, trivial⟩, rfl, k'z rfl⟩
  ·rw [show decide ((i : Int) < ls.length) = false from decide_eq_false (by omega), List.take_of_length_le (by omega)]
   refine Y ?_
   refine k'1 (.addStr rfl rfl rfl (by omega)) rfl rfl ?_
   refine Y ?_
   refine l_cw [] (c) rfl rfl rfl ?_
   refine k'1 (.addStr rfl rfl rfl (by omega)) rfl rfl ?_
   exact Z
 ·-- kind 6
  have c1 := Pack_of B n ihK m zm ms (fun k hk => by have := Kv.sz_mem hk; omega) (by omega) (fun k hk => Kv.wf_mem hwm k hk) hm
  rw [show (Vl.fix (Vl.mk 6 s bb nn l m inner u)).mar = paV 6 (psV 1 (Kv.mars (Kv.fixes m)) ++ inner) ++ u from rfl] at hlen ⊢
  generalize psV 1 (Kv.mars (Kv.fixes m)) = Q at *
  have hq : (Q ++ inner).length ≤ (paV 6 (Q ++ inner)).length := by unfold paV; simp; omega
  have c : k'0 (cx B) 41 [iT 6, sT (Q ++ inner)] [] (sT (paV 6 (Q ++ inner))) [] := k'7 B 6 (Q ++ inner) (by omega) (by omega) (by simp only [List.length_append] at hlen hq ⊢; omega)
  generalize paV 6 (Q ++ inner) = P at *
  unfold big at hlen
  simp only [List.length_append] at hlen
  simp only [List.length_append] at hq
  refine l_bw Tryz.func265 0 [] ?_
  refine x_cw [] (c1) rfl rfl rfl ?_
  refine k'12 (.addStr rfl rfl rfl (by omega)) rfl rfl rfl ?_
  refine Y ?_
  refine x_cw [] (c) rfl rfl rfl ?_
  refine k'1 (.addStr rfl rfl rfl (by omega)) rfl rfl ?_
  exact Z
 ·-- kind 7
  have c : k'0 (cx B) 41 [iT 7, sT s] [] (sT (paV 7 s)) [] := k'7 B 7 s (by omega) (by omega) (by omega)
  rw [show (Vl.fix (Vl.mk 7 s bb nn l m inner u)).mar = paV 7 s ++ u from rfl] at hlen ⊢
  generalize paV 7 s = P at *
  unfold big at hlen
  simp only [List.length_append] at hlen
  refine l_bw Tryz.func265 0 [] ?_
  refine l_cw [] (c) rfl rfl rfl ?_
  refine k'1 (.addStr rfl rfl rfl (by omega)) rfl rfl ?_
  exact Z
theorem rKey_at (n : Nat) (ihV : VWat B n) : KWat B (n + 1) := by
 rintro ⟨key, has, ⟨kind, s, bb, nn, l, m, inner, vu⟩, u⟩ xa hsz hbig hwf ⟨zl, ls, zm, ms, rfl, hl, hm⟩
 have hmar := Kv.mar_len (Kv.fix (.mk key has (.mk kind s bb nn l m inner vu) u))
 rw [Kv.fix_sz] at hmar
 have hlen : (Kv.fix (Kv.mk key has (.mk kind s bb nn l m inner vu) u)).mar.length < big := by omega
 unfold Kv.sz at hsz hbig
 have hR : (Vl.mk kind s bb nn l m inner vu).R (.agg [.int .i64 kind, .str s, .bool bb, .int .u64 nn, .sl zl ls, .sl zm ms, .str inner, .str vu]) := ⟨zl, ls, zm, ms, rfl, hl, hm⟩
 have ct := k'j B 1 key (by omega) (by omega) (by omega)
 rw [show (if key = [] then [] else tagV 1 2 ++ (putV key.length ++ key)) = txV 1 key from rfl] at ct
 cases has
 rotate_left
 ·have h4 := ihV (.mk kind s bb nn l m inner vu) _ (by omega) (by omega) hwf hR
  have e : (Kv.fix (Kv.mk key true (.mk kind s bb nn l m inner vu) u)).mar = txV 1 key ++ paV 2 (Vl.mk kind s bb nn l m inner vu).fix.mar ++ u := by simp [Kv.fix, Kv.mar]
  rw [e] at hlen ⊢
  have cb := k'7 B 2 (Vl.mk kind s bb nn l m inner vu).fix.mar (by omega) (by omega) (by simp [paV] at hlen; omega)
  rw [show tagV 2 2 ++ (putV (Vl.mk kind s bb nn l m inner vu).fix.mar.length ++ (Vl.mk kind s bb nn l m inner vu).fix.mar) = paV 2 (Vl.mk kind s bb nn l m inner vu).fix.mar from rfl] at cb
  generalize (Vl.mk kind s bb nn l m inner vu).fix.mar = V at *
  generalize paV 2 V = P at *
  generalize txV 1 key = K at *
  unfold big at hlen
  simp only [List.length_append] at hlen
  refine l_bw Tryz.func200 0 [] ?_
  refine l_cw [] (ct) rfl rfl rfl ?_
  refine l_cw [] (h4) rfl rfl rfl ?_
  refine l_cw [] (cb) rfl rfl rfl ?_
  refine k'1 (.addStr rfl rfl rfl (by omega)) rfl rfl ?_
  refine Y ?_
  refine k'1 (.addStr rfl rfl rfl (by simp; omega)) rfl rfl ?_
  exact Z
 have e : (Kv.fix (Kv.mk key false (.mk kind s bb nn l m inner vu) u)).mar = txV 1 key ++ u := by simp [Kv.fix, Kv.mar]
 rw [e] at hlen ⊢
 generalize txV 1 key = K at *
 unfold big at hlen
 simp only [List.length_append] at hlen
 refine l_bw Tryz.func200 0 [] ?_
 refine l_cw [] (ct) rfl rfl rfl ?_
 refine k'1 (.addStr rfl rfl rfl (by omega)) rfl rfl ?_
 exact Z
theorem rput (n : Nat) : VWat B n ∧ KWat B n := by
 induction n with
 | zero => exact ⟨fun _ _ h => by omega, fun _ _ h => by omega⟩
 | succ n ih => exact ⟨rValue_at B n ih.1 ih.2, rKey_at B n ih.1⟩
theorem k'4o (num : Nat) (h1 : 1 ≤ num) (h2 : num ≤ 536870911) (l : List Kv) (z : Bool) (xs : List D) (hb : Kv.szs l < big) (hw : ∀ k ∈ l, k.wf) (hR : Kv.Rs l xs) : k'0 (cx B) 150 [iT num, .d (.sl z xs)] [] (sT (psV num (Kv.mars (Kv.fixes l)))) [] :=
 PutKeys_of B (Kv.szs l + 1) num h1 h2 (rput B _).2 l z xs (fun k hk => by have := Kv.sz_mem hk; omega) hb hw hR
theorem k'1q (num : Nat) (h1 : 1 ≤ num) (h2 : num ≤ 536870911) (l : List Kv) (z : Bool) (xs : List D) (d : Int) (hb : Kv.szs l < big) (hw : ∀ k ∈ l, k.wf) (hm : (l.all fun k => k.may d) = true) (hR : Kv.Rs l xs) : k'0 (cx B) 150 [iT num, .d (.sl z xs)] [] (sT (psV num (Kv.mars l))) [] := by
 have := k'4o B num h1 h2 l z xs hb hw hR
 rwa [Kv.fixes_may l d (by rw [Kv.mays_all]; exact hm)] at this
