/- The reference: texts. -/
import Derived.Test.YtcfkbpddmdfbaaaGreatDoorRR
set_option linter.unusedSimpArgs false
set_option linter.unusedVariables false
set_option maxRecDepth 100000
namespace Go.Proofs.YtcfkbpddmdfbaaaGreatDoor
open Go Go.Abs
def sgB (a : UInt8) (r : List UInt8) (j : Nat) : Bool := match r[j]? with | some c => if j = 0 then secB a.toNat c.toNat else folB c.toNat | none => false
theorem signN_g (a : UInt8) (r : List UInt8) : signN (a :: r) = if (List.range (szU a.toNat - 1)).all (sgB a r) then szU a.toNat else 0 := by
 have h := szU_le a.toNat
 rw [signN_cons]
 generalize hn : szU a.toNat = n at *
 have hc : n = 0 ∨ n = 1 ∨ n = 2 ∨ n = 3 ∨ n = 4 := by omega
 rcases hc with rfl | rfl | rfl | rfl | rfl
 ·simp
 ·simp
 ·rcases r with _ | ⟨b, r⟩
  ·simp [List.range_succ, sgB]
  ·simp [List.range_succ, sgB]
   cases secB a.toNat b.toNat <;> simp
 ·rcases r with _ | ⟨b, _ | ⟨c, r⟩⟩
  ·simp [List.range_succ, sgB]
  ·simp [List.range_succ, sgB]
  ·simp [List.range_succ, sgB]
   cases secB a.toNat b.toNat <;> cases folB c.toNat <;> simp
 ·rcases r with _ | ⟨b, _ | ⟨c, _ | ⟨d, r⟩⟩⟩
  ·simp [List.range_succ, sgB]
  ·simp [List.range_succ, sgB]
  ·simp [List.range_succ, sgB]
  ·simp [List.range_succ, sgB]
   cases secB a.toNat b.toNat <;> cases folB c.toNat <;> cases folB d.toNat <;> simp
theorem k'1k {q : Nat → Bool} {n j : Nat} (hj : j < n) (h : q j = false) : (List.range n).all q = false := by
 cases hh : (List.range n).all q with
 | false => rfl
 | true => have := List.all_eq_true.1 hh j (List.mem_range.2 hj); rw [h] at this; simp at this
variable (B : Fr)
set_option maxHeartbeats 8000000 in
theorem rSign_calls (s : List UInt8) (p : Nat) (hp : p < s.length) (hl : s.length < big) : k'0 (cx B) 155 [sT s, iT p] [] (iT (signN (s.drop p))) [] := by
 unfold big at hl
 obtain ⟨a, r, har⟩ : ∃ a r, s.drop p = a :: r := by
  cases h : s.drop p with
  | nil => rw [List.drop_eq_nil_iff] at h; omega
  | cons a r => exact ⟨a, r, rfl⟩
 have hget : ∀ j, s[p + j]? = (a :: r)[j]? := fun j => by rw [← har, List.getElem?_drop]
 have h0 : s[p]? = some a := by have := hget 0; simpa using this
 have hab := k'2u a
 rw [har, signN_g]
 by_cases k0 : a.toNat ≤ 127
 ·clear har
  refine l_bw Tryz.func155 0 [] ?_
  refine k'1 (.index (k := .i64) (n := p) (s := s) (c := a) rfl rfl rfl rfl rfl (by omega) (by rw [Int.toNat_natCast]; exact h0)) rfl rfl ?_
  refine Y ?_
  rw [show decide ((a.toNat : Int) < 128) = true from decide_eq_true (by omega)]
  refine Y ?_
  have hs : szU a.toNat = 1 := by unfold szU; (repeat' split) <;> omega
  rw [hs]
  exact k'i rfl
 by_cases k1 : a.toNat ≤ 193
 ·clear har
  refine l_bw Tryz.func155 0 [] ?_
  refine k'1 (.index (k := .i64) (n := p) (s := s) (c := a) rfl rfl rfl rfl rfl (by omega) (by rw [Int.toNat_natCast]; exact h0)) rfl rfl ?_
  refine Y ?_
  rw [show decide ((a.toNat : Int) < 128) = false from decide_eq_false (by omega)]
  refine Y ?_
  rw [show decide ((a.toNat : Int) ≥ 194) = false from decide_eq_false (by omega)]
  refine Y ?_
  rw [show decide ((a.toNat : Int) ≥ 224) = false from decide_eq_false (by omega)]
  refine Y ?_
  rw [show decide ((a.toNat : Int) ≥ 240) = false from decide_eq_false (by omega)]
  refine Y ?_
  have hs : szU a.toNat = 0 := by unfold szU; (repeat' split) <;> omega
  rw [hs]
  exact k'i rfl
 by_cases k2 : a.toNat ≤ 223
 ·clear har
  refine l_bw Tryz.func155 0 [] ?_
  refine k'1 (.index (k := .i64) (n := p) (s := s) (c := a) rfl rfl rfl rfl rfl (by omega) (by rw [Int.toNat_natCast]; exact h0)) rfl rfl ?_
  refine Y ?_
  rw [show decide ((a.toNat : Int) < 128) = false from decide_eq_false (by omega)]
  refine Y ?_
  rw [show decide ((a.toNat : Int) ≥ 194) = true from decide_eq_true (by omega)]
  refine Y ?_
  rw [show decide ((a.toNat : Int) ≤ 223) = true from decide_eq_true (by omega)]
  refine Y ?_
  rw [show ((a.toNat : Int) == 224) = false by simp; omega]
  refine Y ?_
  rw [show ((a.toNat : Int) == 237) = false by simp; omega]
  refine Y ?_
  rw [show ((a.toNat : Int) == 240) = false by simp; omega]
  refine Y ?_
  rw [show ((a.toNat : Int) == 244) = false by simp; omega]
  refine Y ?_
  have hs : szU a.toNat = 2 := by unfold szU; (repeat' split) <;> omega
  have hsec : ∀ c : Nat, secB a.toNat c = (decide (128 ≤ c) && decide (c ≤ 191)) := fun c => by unfold secB folB; (repeat' split) <;> first | rfl | omega | (rw [Bool.eq_iff_iff]; simp <;> omega)
  have hfol : ∀ c : Nat, folB c = (decide (128 ≤ c) && decide (c ≤ 191)) := fun c => rfl
  rw [hs]
  refine k'8 (fun i : Nat => 2 - i) (fun i => [(0, sT s), (1, iT p), (6, iT 2), (7, .d (.int .u8 ((if i = 1 then 128 else 128 : Nat) : Nat))), (8, .d (.int .u8 ((if i = 1 then 191 else 191 : Nat) : Nat))), (9, iT i)]) (fun _ => []) (fun i => 1 ≤ i ∧ i ≤ 2 ∧ (List.range (i - 1)).all (sgB a r) = true) 1 ⟨by omega, by omega, rfl⟩ ⟨rfl, rfl, rfl, rfl, rfl, rfl, trivial⟩ rfl 0 rfl (fun _ => rfl) (fun _ => rfl) (fun _ => rfl) ?_
  rintro i ⟨i1, i2, i3⟩
  refine Y ?_
  by_cases hlt : i < 2
  ·rw [show decide ((i : Int) < 2) = true from decide_eq_true (by omega)]
   refine Y ?_
   rw [show IntKind.i64.wrap ((p : Int) + i) = ((p + i : Nat) : Int) by rw [k'10 (by omega) (by omega)]; omega]
   have hgi : s[p + i]? = r[i - 1]? := by rw [hget i, show i = (i - 1) + 1 by omega, List.getElem?_cons_succ]; rfl
   by_cases hge : p + i ≥ s.length
   ·rw [show decide (((p + i : Nat) : Int) ≥ s.length) = true from decide_eq_true (by omega)]
    have hf : sgB a r (i - 1) = false := by
     have : r[i - 1]? = none := by rw [← hgi]; exact List.getElem?_eq_none hge
     unfold sgB; rw [this]
    rw [k'1k (n := 2 - 1) (show i - 1 < 2 - 1 by omega) hf]
    exact Z
   rw [show decide (((p + i : Nat) : Int) ≥ s.length) = false from decide_eq_false (by omega)]
   obtain ⟨c, hc⟩ : ∃ c, s[p + i]? = some c := ⟨_, List.getElem?_eq_getElem (by omega)⟩
   have hcb := k'2u c
   have hr : r[i - 1]? = some c := by rw [← hgi]; exact hc
   have hsg : sgB a r (i - 1) = (decide ((if i = 1 then 128 else 128 : Nat) ≤ c.toNat) && decide (c.toNat ≤ (if i = 1 then 191 else 191 : Nat))) := by
    unfold sgB
    rw [hr]
    by_cases h1 : i = 1
    ·rw [if_pos h1, if_pos h1]
     simp only
     rw [if_pos (by omega), hsec]
    ·rw [if_neg h1, if_neg h1]
     simp only
     rw [if_neg (by omega), hfol]
   generalize hlo : (if i = 1 then 128 else 128 : Nat) = lo at *
   generalize hhi : (if i = 1 then 191 else 191 : Nat) = hi at *
   refine Y ?_
   rw [show IntKind.i64.wrap ((p : Int) + i) = ((p + i : Nat) : Int) by rw [k'10 (by omega) (by omega)]; omega]
   refine k'1j (.index (k := .i64) (n := (p + i : Nat)) (s := s) (c := c) rfl rfl rfl rfl rfl (by omega) (by rw [Int.toNat_natCast]; exact hc)) rfl rfl rfl rfl ?_
   refine Y ?_
   by_cases hl1 : c.toNat < lo
   ·rw [show decide ((c.toNat : Int) < lo) = true from decide_eq_true (by omega)]
    have hf : sgB a r (i - 1) = false := by rw [hsg, decide_eq_false (show ¬ lo ≤ c.toNat by omega)]; rfl
    rw [k'1k (n := 2 - 1) (show i - 1 < 2 - 1 by omega) hf]
    exact Z
   rw [show decide ((c.toNat : Int) < lo) = false from decide_eq_false (by omega)]
   refine Y ?_
   rw [show IntKind.i64.wrap ((p : Int) + i) = ((p + i : Nat) : Int) by rw [k'10 (by omega) (by omega)]; omega]
   refine k'1j (.index (k := .i64) (n := (p + i : Nat)) (s := s) (c := c) rfl rfl rfl rfl rfl (by omega) (by rw [Int.toNat_natCast]; exact hc)) rfl rfl rfl rfl ?_
   refine Y ?_
   by_cases hl2 : c.toNat > hi
   ·rw [show decide ((c.toNat : Int) > hi) = true from decide_eq_true (by omega)]
    have hf : sgB a r (i - 1) = false := by rw [hsg, decide_eq_false (show ¬ c.toNat ≤ hi by omega), Bool.and_false]
    rw [k'1k (n := 2 - 1) (show i - 1 < 2 - 1 by omega) hf]
    exact Z
   rw [show decide ((c.toNat : Int) > hi) = false from decide_eq_false (by omega)]
   refine Y ?_
   have ht : sgB a r (i - 1) = true := by rw [hsg, decide_eq_true (show lo ≤ c.toNat by omega), decide_eq_true (show c.toNat ≤ hi by omega)]; rfl
   rw [wS i (by omega)]
   exact ⟨i + 1, by omega, ⟨by omega, by omega, by rw [show i + 1 - 1 = (i - 1) + 1 by omega, List.range_succ, List.all_append, i3]; simp [ht]⟩, ⟨rfl, rfl, rfl, by rw [if_neg (by omega)] <;> rfl, by rw [if_neg (by omega)] <;> rfl, rfl, trivial⟩, rfl, k'z rfl⟩
  ·rw [show decide ((i : Int) < 2) = false from decide_eq_false (by omega)]
   have e : i = 2 := by omega
   subst e
   rw [if_pos i3]
   exact Z
 by_cases k3 : a.toNat ≤ 224
 ·clear har
  refine l_bw Tryz.func155 0 [] ?_
  refine k'1 (.index (k := .i64) (n := p) (s := s) (c := a) rfl rfl rfl rfl rfl (by omega) (by rw [Int.toNat_natCast]; exact h0)) rfl rfl ?_
  refine Y ?_
  rw [show decide ((a.toNat : Int) < 128) = false from decide_eq_false (by omega)]
  refine Y ?_
  rw [show decide ((a.toNat : Int) ≥ 194) = true from decide_eq_true (by omega)]
  refine Y ?_
  rw [show decide ((a.toNat : Int) ≤ 223) = false from decide_eq_false (by omega)]
  refine Y ?_
  rw [show decide ((a.toNat : Int) ≥ 224) = true from decide_eq_true (by omega)]
  refine Y ?_
  rw [show decide ((a.toNat : Int) ≤ 239) = true from decide_eq_true (by omega)]
  refine Y ?_
  rw [show ((a.toNat : Int) == 224) = true by simp; omega]
  refine Y ?_
  have hs : szU a.toNat = 3 := by unfold szU; (repeat' split) <;> omega
  have hsec : ∀ c : Nat, secB a.toNat c = (decide (160 ≤ c) && decide (c ≤ 191)) := fun c => by unfold secB folB; (repeat' split) <;> first | rfl | omega | (rw [Bool.eq_iff_iff]; simp <;> omega)
  have hfol : ∀ c : Nat, folB c = (decide (128 ≤ c) && decide (c ≤ 191)) := fun c => rfl
  rw [hs]
  refine k'8 (fun i : Nat => 3 - i) (fun i => [(0, sT s), (1, iT p), (6, iT 3), (7, .d (.int .u8 ((if i = 1 then 160 else 128 : Nat) : Nat))), (8, .d (.int .u8 ((if i = 1 then 191 else 191 : Nat) : Nat))), (9, iT i)]) (fun _ => []) (fun i => 1 ≤ i ∧ i ≤ 3 ∧ (List.range (i - 1)).all (sgB a r) = true) 1 ⟨by omega, by omega, rfl⟩ ⟨rfl, rfl, rfl, rfl, rfl, rfl, trivial⟩ rfl 0 rfl (fun _ => rfl) (fun _ => rfl) (fun _ => rfl) ?_
  rintro i ⟨i1, i2, i3⟩
  refine Y ?_
  by_cases hlt : i < 3
  ·rw [show decide ((i : Int) < 3) = true from decide_eq_true (by omega)]
   refine Y ?_
   rw [show IntKind.i64.wrap ((p : Int) + i) = ((p + i : Nat) : Int) by rw [k'10 (by omega) (by omega)]; omega]
   have hgi : s[p + i]? = r[i - 1]? := by rw [hget i, show i = (i - 1) + 1 by omega, List.getElem?_cons_succ]; rfl
   by_cases hge : p + i ≥ s.length
   ·rw [show decide (((p + i : Nat) : Int) ≥ s.length) = true from decide_eq_true (by omega)]
    have hf : sgB a r (i - 1) = false := by
     have : r[i - 1]? = none := by rw [← hgi]; exact List.getElem?_eq_none hge
     unfold sgB; rw [this]
    rw [k'1k (n := 3 - 1) (show i - 1 < 3 - 1 by omega) hf]
    exact Z
   rw [show decide (((p + i : Nat) : Int) ≥ s.length) = false from decide_eq_false (by omega)]
   obtain ⟨c, hc⟩ : ∃ c, s[p + i]? = some c := ⟨_, List.getElem?_eq_getElem (by omega)⟩
   have hcb := k'2u c
   have hr : r[i - 1]? = some c := by rw [← hgi]; exact hc
   have hsg : sgB a r (i - 1) = (decide ((if i = 1 then 160 else 128 : Nat) ≤ c.toNat) && decide (c.toNat ≤ (if i = 1 then 191 else 191 : Nat))) := by
    unfold sgB
    rw [hr]
    by_cases h1 : i = 1
    ·rw [if_pos h1, if_pos h1]
     simp only
     rw [if_pos (by omega), hsec]
    ·rw [if_neg h1, if_neg h1]
     simp only
     rw [if_neg (by omega), hfol]
   generalize hlo : (if i = 1 then 160 else 128 : Nat) = lo at *
   generalize hhi : (if i = 1 then 191 else 191 : Nat) = hi at *
   refine Y ?_
   rw [show IntKind.i64.wrap ((p : Int) + i) = ((p + i : Nat) : Int) by rw [k'10 (by omega) (by omega)]; omega]
   refine k'1j (.index (k := .i64) (n := (p + i : Nat)) (s := s) (c := c) rfl rfl rfl rfl rfl (by omega) (by rw [Int.toNat_natCast]; exact hc)) rfl rfl rfl rfl ?_
   refine Y ?_
   by_cases hl1 : c.toNat < lo
   ·rw [show decide ((c.toNat : Int) < lo) = true from decide_eq_true (by omega)]
    have hf : sgB a r (i - 1) = false := by rw [hsg, decide_eq_false (show ¬ lo ≤ c.toNat by omega)]; rfl
    rw [k'1k (n := 3 - 1) (show i - 1 < 3 - 1 by omega) hf]
    exact Z
   rw [show decide ((c.toNat : Int) < lo) = false from decide_eq_false (by omega)]
   refine Y ?_
   rw [show IntKind.i64.wrap ((p : Int) + i) = ((p + i : Nat) : Int) by rw [k'10 (by omega) (by omega)]; omega]
   refine k'1j (.index (k := .i64) (n := (p + i : Nat)) (s := s) (c := c) rfl rfl rfl rfl rfl (by omega) (by rw [Int.toNat_natCast]; exact hc)) rfl rfl rfl rfl ?_
   refine Y ?_
   by_cases hl2 : c.toNat > hi
   ·rw [show decide ((c.toNat : Int) > hi) = true from decide_eq_true (by omega)]
    have hf : sgB a r (i - 1) = false := by rw [hsg, decide_eq_false (show ¬ c.toNat ≤ hi by omega), Bool.and_false]
    rw [k'1k (n := 3 - 1) (show i - 1 < 3 - 1 by omega) hf]
    exact Z
   rw [show decide ((c.toNat : Int) > hi) = false from decide_eq_false (by omega)]
   refine Y ?_
   have ht : sgB a r (i - 1) = true := by rw [hsg, decide_eq_true (show lo ≤ c.toNat by omega), decide_eq_true (show c.toNat ≤ hi by omega)]; rfl
   rw [wS i (by omega)]
   exact ⟨i + 1, by omega, ⟨by omega, by omega, by rw [show i + 1 - 1 = (i - 1) + 1 by omega, List.range_succ, List.all_append, i3]; simp [ht]⟩, ⟨rfl, rfl, rfl, by rw [if_neg (by omega)] <;> rfl, by rw [if_neg (by omega)] <;> rfl, rfl, trivial⟩, rfl, k'z rfl⟩
  ·rw [show decide ((i : Int) < 3) = false from decide_eq_false (by omega)]
   have e : i = 3 := by omega
   subst e
   rw [if_pos i3]
   exact Z
 by_cases k4 : a.toNat ≤ 236
 ·clear har
  refine l_bw Tryz.func155 0 [] ?_
  refine k'1 (.index (k := .i64) (n := p) (s := s) (c := a) rfl rfl rfl rfl rfl (by omega) (by rw [Int.toNat_natCast]; exact h0)) rfl rfl ?_
  refine Y ?_
  rw [show decide ((a.toNat : Int) < 128) = false from decide_eq_false (by omega)]
  refine Y ?_
  rw [show decide ((a.toNat : Int) ≥ 194) = true from decide_eq_true (by omega)]
  refine Y ?_
  rw [show decide ((a.toNat : Int) ≤ 223) = false from decide_eq_false (by omega)]
  refine Y ?_
  rw [show decide ((a.toNat : Int) ≥ 224) = true from decide_eq_true (by omega)]
  refine Y ?_
  rw [show decide ((a.toNat : Int) ≤ 239) = true from decide_eq_true (by omega)]
  refine Y ?_
  rw [show ((a.toNat : Int) == 224) = false by simp; omega]
  refine Y ?_
  rw [show ((a.toNat : Int) == 237) = false by simp; omega]
  refine Y ?_
  rw [show ((a.toNat : Int) == 240) = false by simp; omega]
  refine Y ?_
  rw [show ((a.toNat : Int) == 244) = false by simp; omega]
  refine Y ?_
  have hs : szU a.toNat = 3 := by unfold szU; (repeat' split) <;> omega
  have hsec : ∀ c : Nat, secB a.toNat c = (decide (128 ≤ c) && decide (c ≤ 191)) := fun c => by unfold secB folB; (repeat' split) <;> first | rfl | omega | (rw [Bool.eq_iff_iff]; simp <;> omega)
  have hfol : ∀ c : Nat, folB c = (decide (128 ≤ c) && decide (c ≤ 191)) := fun c => rfl
  rw [hs]
  refine k'8 (fun i : Nat => 3 - i) (fun i => [(0, sT s), (1, iT p), (6, iT 3), (7, .d (.int .u8 ((if i = 1 then 128 else 128 : Nat) : Nat))), (8, .d (.int .u8 ((if i = 1 then 191 else 191 : Nat) : Nat))), (9, iT i)]) (fun _ => []) (fun i => 1 ≤ i ∧ i ≤ 3 ∧ (List.range (i - 1)).all (sgB a r) = true) 1 ⟨by omega, by omega, rfl⟩ ⟨rfl, rfl, rfl, rfl, rfl, rfl, trivial⟩ rfl 0 rfl (fun _ => rfl) (fun _ => rfl) (fun _ => rfl) ?_
  rintro i ⟨i1, i2, i3⟩
  refine Y ?_
  by_cases hlt : i < 3
  ·rw [show decide ((i : Int) < 3) = true from decide_eq_true (by omega)]
   refine Y ?_
   rw [show IntKind.i64.wrap ((p : Int) + i) = ((p + i : Nat) : Int) by rw [k'10 (by omega) (by omega)]; omega]
   have hgi : s[p + i]? = r[i - 1]? := by rw [hget i, show i = (i - 1) + 1 by omega, List.getElem?_cons_succ]; rfl
   by_cases hge : p + i ≥ s.length
   ·rw [show decide (((p + i : Nat) : Int) ≥ s.length) = true from decide_eq_true (by omega)]
    have hf : sgB a r (i - 1) = false := by
     have : r[i - 1]? = none := by rw [← hgi]; exact List.getElem?_eq_none hge
     unfold sgB; rw [this]
    rw [k'1k (n := 3 - 1) (show i - 1 < 3 - 1 by omega) hf]
    exact Z
   rw [show decide (((p + i : Nat) : Int) ≥ s.length) = false from decide_eq_false (by omega)]
   obtain ⟨c, hc⟩ : ∃ c, s[p + i]? = some c := ⟨_, List.getElem?_eq_getElem (by omega)⟩
   have hcb := k'2u c
   have hr : r[i - 1]? = some c := by rw [← hgi]; exact hc
   have hsg : sgB a r (i - 1) = (decide ((if i = 1 then 128 else 128 : Nat) ≤ c.toNat) && decide (c.toNat ≤ (if i = 1 then 191 else 191 : Nat))) := by
    unfold sgB
    rw [hr]
    by_cases h1 : i = 1
    ·rw [if_pos h1, if_pos h1]
     simp only
     rw [if_pos (by omega), hsec]
    ·rw [if_neg h1, if_neg h1]
     simp only
     rw [if_neg (by omega), hfol]
   generalize hlo : (if i = 1 then 128 else 128 : Nat) = lo at *
   generalize hhi : (if i = 1 then 191 else 191 : Nat) = hi at *
   refine Y ?_
   rw [show IntKind.i64.wrap ((p : Int) + i) = ((p + i : Nat) : Int) by rw [k'10 (by omega) (by omega)]; omega]
   refine k'1j (.index (k := .i64) (n := (p + i : Nat)) (s := s) (c := c) rfl rfl rfl rfl rfl (by omega) (by rw [Int.toNat_natCast]; exact hc)) rfl rfl rfl rfl ?_
   refine Y ?_
   by_cases hl1 : c.toNat < lo
   ·rw [show decide ((c.toNat : Int) < lo) = true from decide_eq_true (by omega)]
    have hf : sgB a r (i - 1) = false := by rw [hsg, decide_eq_false (show ¬ lo ≤ c.toNat by omega)]; rfl
    rw [k'1k (n := 3 - 1) (show i - 1 < 3 - 1 by omega) hf]
    exact Z
   rw [show decide ((c.toNat : Int) < lo) = false from decide_eq_false (by omega)]
   refine Y ?_
   rw [show IntKind.i64.wrap ((p : Int) + i) = ((p + i : Nat) : Int) by rw [k'10 (by omega) (by omega)]; omega]
   refine k'1j (.index (k := .i64) (n := (p + i : Nat)) (s := s) (c := c) rfl rfl rfl rfl rfl (by omega) (by rw [Int.toNat_natCast]; exact hc)) rfl rfl rfl rfl ?_
   refine Y ?_
   by_cases hl2 : c.toNat > hi
   ·rw [show decide ((c.toNat : Int) > hi) = true from decide_eq_true (by omega)]
    have hf : sgB a r (i - 1) = false := by rw [hsg, decide_eq_false (show ¬ c.toNat ≤ hi by omega), Bool.and_false]
    rw [k'1k (n := 3 - 1) (show i - 1 < 3 - 1 by omega) hf]
    exact Z
   rw [show decide ((c.toNat : Int) > hi) = false from decide_eq_false (by omega)]
   refine Y ?_
   have ht : sgB a r (i - 1) = true := by rw [hsg, decide_eq_true (show lo ≤ c.toNat by omega), decide_eq_true (show c.toNat ≤ hi by omega)]; rfl
   rw [wS i (by omega)]
   exact ⟨i + 1, by omega, ⟨by omega, by omega, by rw [show i + 1 - 1 = (i - 1) + 1 by omega, List.range_succ, List.all_append, i3]; simp [ht]⟩, ⟨rfl, rfl, rfl, by rw [if_neg (by omega)] <;> rfl, by rw [if_neg (by omega)] <;> rfl, rfl, trivial⟩, rfl, k'z rfl⟩
  ·rw [show decide ((i : Int) < 3) = false from decide_eq_false (by omega)]
   have e : i = 3 := by omega
   subst e
   rw [if_pos i3]
   exact Z
 by_cases k5 : a.toNat ≤ 237
 ·clear har
  refine l_bw Tryz.func155 0 [] ?_
  refine k'1 (.index (k := .i64) (n := p) (s := s) (c := a) rfl rfl rfl rfl rfl (by omega) (by rw [Int.toNat_natCast]; exact h0)) rfl rfl ?_
  refine Y ?_
  rw [show decide ((a.toNat : Int) < 128) = false from decide_eq_false (by omega)]
  refine Y ?_
  rw [show decide ((a.toNat : Int) ≥ 194) = true from decide_eq_true (by omega)]
  refine Y ?_
  rw [show decide ((a.toNat : Int) ≤ 223) = false from decide_eq_false (by omega)]
  refine Y ?_
  rw [show decide ((a.toNat : Int) ≥ 224) = true from decide_eq_true (by omega)]
  refine Y ?_
  rw [show decide ((a.toNat : Int) ≤ 239) = true from decide_eq_true (by omega)]
  refine Y ?_
  rw [show ((a.toNat : Int) == 224) = false by simp; omega]
  refine Y ?_
  rw [show ((a.toNat : Int) == 237) = true by simp; omega]
  refine Y ?_
  have hs : szU a.toNat = 3 := by unfold szU; (repeat' split) <;> omega
  have hsec : ∀ c : Nat, secB a.toNat c = (decide (128 ≤ c) && decide (c ≤ 159)) := fun c => by unfold secB folB; (repeat' split) <;> first | rfl | omega | (rw [Bool.eq_iff_iff]; simp <;> omega)
  have hfol : ∀ c : Nat, folB c = (decide (128 ≤ c) && decide (c ≤ 191)) := fun c => rfl
  rw [hs]
  refine k'8 (fun i : Nat => 3 - i) (fun i => [(0, sT s), (1, iT p), (6, iT 3), (7, .d (.int .u8 ((if i = 1 then 128 else 128 : Nat) : Nat))), (8, .d (.int .u8 ((if i = 1 then 159 else 191 : Nat) : Nat))), (9, iT i)]) (fun _ => []) (fun i => 1 ≤ i ∧ i ≤ 3 ∧ (List.range (i - 1)).all (sgB a r) = true) 1 ⟨by omega, by omega, rfl⟩ ⟨rfl, rfl, rfl, rfl, rfl, rfl, trivial⟩ rfl 0 rfl (fun _ => rfl) (fun _ => rfl) (fun _ => rfl) ?_
  rintro i ⟨i1, i2, i3⟩
  refine Y ?_
  by_cases hlt : i < 3
  ·rw [show decide ((i : Int) < 3) = true from decide_eq_true (by omega)]
   refine Y ?_
   rw [show IntKind.i64.wrap ((p : Int) + i) = ((p + i : Nat) : Int) by rw [k'10 (by omega) (by omega)]; omega]
   have hgi : s[p + i]? = r[i - 1]? := by rw [hget i, show i = (i - 1) + 1 by omega, List.getElem?_cons_succ]; rfl
   by_cases hge : p + i ≥ s.length
   ·rw [show decide (((p + i : Nat) : Int) ≥ s.length) = true from decide_eq_true (by omega)]
    have hf : sgB a r (i - 1) = false := by
     have : r[i - 1]? = none := by rw [← hgi]; exact List.getElem?_eq_none hge
     unfold sgB; rw [this]
    rw [k'1k (n := 3 - 1) (show i - 1 < 3 - 1 by omega) hf]
    exact Z
   rw [show decide (((p + i : Nat) : Int) ≥ s.length) = false from decide_eq_false (by omega)]
   obtain ⟨c, hc⟩ : ∃ c, s[p + i]? = some c := ⟨_, List.getElem?_eq_getElem (by omega)⟩
   have hcb := k'2u c
   have hr : r[i - 1]? = some c := by rw [← hgi]; exact hc
   have hsg : sgB a r (i - 1) = (decide ((if i = 1 then 128 else 128 : Nat) ≤ c.toNat) && decide (c.toNat ≤ (if i = 1 then 159 else 191 : Nat))) := by
    unfold sgB
    rw [hr]
    by_cases h1 : i = 1
    ·rw [if_pos h1, if_pos h1]
     simp only
     rw [if_pos (by omega), hsec]
    ·rw [if_neg h1, if_neg h1]
     simp only
     rw [if_neg (by omega), hfol]
   generalize hlo : (if i = 1 then 128 else 128 : Nat) = lo at *
   generalize hhi : (if i = 1 then 159 else 191 : Nat) = hi at *
   refine Y ?_
   rw [show IntKind.i64.wrap ((p : Int) + i) = ((p + i : Nat) : Int) by rw [k'10 (by omega) (by omega)]; omega]
   refine k'1j (.index (k := .i64) (n := (p + i : Nat)) (s := s) (c := c) rfl rfl rfl rfl rfl (by omega) (by rw [Int.toNat_natCast]; exact hc)) rfl rfl rfl rfl ?_
   refine Y ?_
   by_cases hl1 : c.toNat < lo
   ·rw [show decide ((c.toNat : Int) < lo) = true from decide_eq_true (by omega)]
    have hf : sgB a r (i - 1) = false := by rw [hsg, decide_eq_false (show ¬ lo ≤ c.toNat by omega)]; rfl
    rw [k'1k (n := 3 - 1) (show i - 1 < 3 - 1 by omega) hf]
    exact Z
   rw [show decide ((c.toNat : Int) < lo) = false from decide_eq_false (by omega)]
   refine Y ?_
   rw [show IntKind.i64.wrap ((p : Int) + i) = ((p + i : Nat) : Int) by rw [k'10 (by omega) (by omega)]; omega]
   refine k'1j (.index (k := .i64) (n := (p + i : Nat)) (s := s) (c := c) rfl rfl rfl rfl rfl (by omega) (by rw [Int.toNat_natCast]; exact hc)) rfl rfl rfl rfl ?_
   refine Y ?_
   by_cases hl2 : c.toNat > hi
   ·rw [show decide ((c.toNat : Int) > hi) = true from decide_eq_true (by omega)]
    have hf : sgB a r (i - 1) = false := by rw [hsg, decide_eq_false (show ¬ c.toNat ≤ hi by omega), Bool.and_false]
    rw [k'1k (n := 3 - 1) (show i - 1 < 3 - 1 by omega) hf]
    exact Z
   rw [show decide ((c.toNat : Int) > hi) = false from decide_eq_false (by omega)]
   refine Y ?_
   have ht : sgB a r (i - 1) = true := by rw [hsg, decide_eq_true (show lo ≤ c.toNat by omega), decide_eq_true (show c.toNat ≤ hi by omega)]; rfl
   rw [wS i (by omega)]
   exact ⟨i + 1, by omega, ⟨by omega, by omega, by rw [show i + 1 - 1 = (i - 1) + 1 by omega, List.range_succ, List.all_append, i3]; simp [ht]⟩, ⟨rfl, rfl, rfl, by rw [if_neg (by omega)] <;> rfl, by rw [if_neg (by omega)] <;> rfl, rfl, trivial⟩, rfl, k'z rfl⟩
  ·rw [show decide ((i : Int) < 3) = false from decide_eq_false (by omega)]
   have e : i = 3 := by omega
   subst e
   rw [if_pos i3]
   exact Z
 by_cases k6 : a.toNat ≤ 239
 ·clear har
  refine l_bw Tryz.func155 0 [] ?_
  refine k'1 (.index (k := .i64) (n := p) (s := s) (c := a) rfl rfl rfl rfl rfl (by omega) (by rw [Int.toNat_natCast]; exact h0)) rfl rfl ?_
  refine Y ?_
  rw [show decide ((a.toNat : Int) < 128) = false from decide_eq_false (by omega)]
  refine Y ?_
  rw [show decide ((a.toNat : Int) ≥ 194) = true from decide_eq_true (by omega)]
  refine Y ?_
  rw [show decide ((a.toNat : Int) ≤ 223) = false from decide_eq_false (by omega)]
  refine Y ?_
  rw [show decide ((a.toNat : Int) ≥ 224) = true from decide_eq_true (by omega)]
  refine Y ?_
  rw [show decide ((a.toNat : Int) ≤ 239) = true from decide_eq_true (by omega)]
  refine Y ?_
  rw [show ((a.toNat : Int) == 224) = false by simp; omega]
  refine Y ?_
  rw [show ((a.toNat : Int) == 237) = false by simp; omega]
  refine Y ?_
  rw [show ((a.toNat : Int) == 240) = false by simp; omega]
  refine Y ?_
  rw [show ((a.toNat : Int) == 244) = false by simp; omega]
  refine Y ?_
  have hs : szU a.toNat = 3 := by unfold szU; (repeat' split) <;> omega
  have hsec : ∀ c : Nat, secB a.toNat c = (decide (128 ≤ c) && decide (c ≤ 191)) := fun c => by unfold secB folB; (repeat' split) <;> first | rfl | omega | (rw [Bool.eq_iff_iff]; simp <;> omega)
  have hfol : ∀ c : Nat, folB c = (decide (128 ≤ c) && decide (c ≤ 191)) := fun c => rfl
  rw [hs]
  refine k'8 (fun i : Nat => 3 - i) (fun i => [(0, sT s), (1, iT p), (6, iT 3), (7, .d (.int .u8 ((if i = 1 then 128 else 128 : Nat) : Nat))), (8, .d (.int .u8 ((if i = 1 then 191 else 191 : Nat) : Nat))), (9, iT i)]) (fun _ => []) (fun i => 1 ≤ i ∧ i ≤ 3 ∧ (List.range (i - 1)).all (sgB a r) = true) 1 ⟨by omega, by omega, rfl⟩ ⟨rfl, rfl, rfl, rfl, rfl, rfl, trivial⟩ rfl 0 rfl (fun _ => rfl) (fun _ => rfl) (fun _ => rfl) ?_
  rintro i ⟨i1, i2, i3⟩
  refine Y ?_
  by_cases hlt : i < 3
  ·rw [show decide ((i : Int) < 3) = true from decide_eq_true (by omega)]
   refine Y ?_
   rw [show IntKind.i64.wrap ((p : Int) + i) = ((p + i : Nat) : Int) by rw [k'10 (by omega) (by omega)]; omega]
   have hgi : s[p + i]? = r[i - 1]? := by rw [hget i, show i = (i - 1) + 1 by omega, List.getElem?_cons_succ]; rfl
   by_cases hge : p + i ≥ s.length
   ·rw [show decide (((p + i : Nat) : Int) ≥ s.length) = true from decide_eq_true (by omega)]
    have hf : sgB a r (i - 1) = false := by
     have : r[i - 1]? = none := by rw [← hgi]; exact List.getElem?_eq_none hge
     unfold sgB; rw [this]
    rw [k'1k (n := 3 - 1) (show i - 1 < 3 - 1 by omega) hf]
    exact Z
   rw [show decide (((p + i : Nat) : Int) ≥ s.length) = false from decide_eq_false (by omega)]
   obtain ⟨c, hc⟩ : ∃ c, s[p + i]? = some c := ⟨_, List.getElem?_eq_getElem (by omega)⟩
   have hcb := k'2u c
   have hr : r[i - 1]? = some c := by rw [← hgi]; exact hc
   have hsg : sgB a r (i - 1) = (decide ((if i = 1 then 128 else 128 : Nat) ≤ c.toNat) && decide (c.toNat ≤ (if i = 1 then 191 else 191 : Nat))) := by
    unfold sgB
    rw [hr]
    by_cases h1 : i = 1
    ·rw [if_pos h1, if_pos h1]
     simp only
     rw [if_pos (by omega), hsec]
    ·rw [if_neg h1, if_neg h1]
     simp only
     rw [if_neg (by omega), hfol]
   generalize hlo : (if i = 1 then 128 else 128 : Nat) = lo at *
   generalize hhi : (if i = 1 then 191 else 191 : Nat) = hi at *
   refine Y ?_
   rw [show IntKind.i64.wrap ((p : Int) + i) = ((p + i : Nat) : Int) by rw [k'10 (by omega) (by omega)]; omega]
   refine k'1j (.index (k := .i64) (n := (p + i : Nat)) (s := s) (c := c) rfl rfl rfl rfl rfl (by omega) (by rw [Int.toNat_natCast]; exact hc)) rfl rfl rfl rfl ?_
   refine Y ?_
   by_cases hl1 : c.toNat < lo
   ·rw [show decide ((c.toNat : Int) < lo) = true from decide_eq_true (by omega)]
    have hf : sgB a r (i - 1) = false := by rw [hsg, decide_eq_false (show ¬ lo ≤ c.toNat by omega)]; rfl
    rw [k'1k (n := 3 - 1) (show i - 1 < 3 - 1 by omega) hf]
    exact Z
   rw [show decide ((c.toNat : Int) < lo) = false from decide_eq_false (by omega)]
   refine Y ?_
   rw [show IntKind.i64.wrap ((p : Int) + i) = ((p + i : Nat) : Int) by rw [k'10 (by omega) (by omega)]; omega]
   refine k'1j (.index (k := .i64) (n := (p + i : Nat)) (s := s) (c := c) rfl rfl rfl rfl rfl (by omega) (by rw [Int.toNat_natCast]; exact hc)) rfl rfl rfl rfl ?_
   refine Y ?_
   by_cases hl2 : c.toNat > hi
   ·rw [show decide ((c.toNat : Int) > hi) = true from decide_eq_true (by omega)]
    have hf : sgB a r (i - 1) = false := by rw [hsg, decide_eq_false (show ¬ c.toNat ≤ hi by omega), Bool.and_false]
    rw [k'1k (n := 3 - 1) (show i - 1 < 3 - 1 by omega) hf]
    exact Z
   rw [show decide ((c.toNat : Int) > hi) = false from decide_eq_false (by omega)]
   refine Y ?_
   have ht : sgB a r (i - 1) = true := by rw [hsg, decide_eq_true (show lo ≤ c.toNat by omega), decide_eq_true (show c.toNat ≤ hi by omega)]; rfl
   rw [wS i (by omega)]
   exact ⟨i + 1, by omega, ⟨by omega, by omega, by rw [show i + 1 - 1 = (i - 1) + 1 by omega, List.range_succ, List.all_append, i3]; simp [ht]⟩, ⟨rfl, rfl, rfl, by rw [if_neg (by omega)] <;> rfl, by rw [if_neg (by omega)] <;> rfl, rfl, trivial⟩, rfl, k'z rfl⟩
  ·rw [show decide ((i : Int) < 3) = false from decide_eq_false (by omega)]
   have e : i = 3 := by omega
   subst e
   rw [if_pos i3]
   exact Z
 by_cases k7 : a.toNat ≤ 240
 ·clear har
  refine l_bw Tryz.func155 0 [] ?_
  refine k'1 (.index (k := .i64) (n := p) (s := s) (c := a) rfl rfl rfl rfl rfl (by omega) (by rw [Int.toNat_natCast]; exact h0)) rfl rfl ?_
  refine Y ?_
  rw [show decide ((a.toNat : Int) < 128) = false from decide_eq_false (by omega)]
  refine Y ?_
  rw [show decide ((a.toNat : Int) ≥ 194) = true from decide_eq_true (by omega)]
  refine Y ?_
  rw [show decide ((a.toNat : Int) ≤ 223) = false from decide_eq_false (by omega)]
  refine Y ?_
  rw [show decide ((a.toNat : Int) ≥ 224) = true from decide_eq_true (by omega)]
  refine Y ?_
  rw [show decide ((a.toNat : Int) ≤ 239) = false from decide_eq_false (by omega)]
  refine Y ?_
  rw [show decide ((a.toNat : Int) ≥ 240) = true from decide_eq_true (by omega)]
  refine Y ?_
  rw [show decide ((a.toNat : Int) ≤ 244) = true from decide_eq_true (by omega)]
  refine Y ?_
  rw [show ((a.toNat : Int) == 224) = false by simp; omega]
  refine Y ?_
  rw [show ((a.toNat : Int) == 237) = false by simp; omega]
  refine Y ?_
  rw [show ((a.toNat : Int) == 240) = true by simp; omega]
  refine Y ?_
  have hs : szU a.toNat = 4 := by unfold szU; (repeat' split) <;> omega
  have hsec : ∀ c : Nat, secB a.toNat c = (decide (144 ≤ c) && decide (c ≤ 191)) := fun c => by unfold secB folB; (repeat' split) <;> first | rfl | omega | (rw [Bool.eq_iff_iff]; simp <;> omega)
  have hfol : ∀ c : Nat, folB c = (decide (128 ≤ c) && decide (c ≤ 191)) := fun c => rfl
  rw [hs]
  refine k'8 (fun i : Nat => 4 - i) (fun i => [(0, sT s), (1, iT p), (6, iT 4), (7, .d (.int .u8 ((if i = 1 then 144 else 128 : Nat) : Nat))), (8, .d (.int .u8 ((if i = 1 then 191 else 191 : Nat) : Nat))), (9, iT i)]) (fun _ => []) (fun i => 1 ≤ i ∧ i ≤ 4 ∧ (List.range (i - 1)).all (sgB a r) = true) 1 ⟨by omega, by omega, rfl⟩ ⟨rfl, rfl, rfl, rfl, rfl, rfl, trivial⟩ rfl 0 rfl (fun _ => rfl) (fun _ => rfl) (fun _ => rfl) ?_
  rintro i ⟨i1, i2, i3⟩
  refine Y ?_
  by_cases hlt : i < 4
  ·rw [show decide ((i : Int) < 4) = true from decide_eq_true (by omega)]
   refine Y ?_
   rw [show IntKind.i64.wrap ((p : Int) + i) = ((p + i : Nat) : Int) by rw [k'10 (by omega) (by omega)]; omega]
   have hgi : s[p + i]? = r[i - 1]? := by rw [hget i, show i = (i - 1) + 1 by omega, List.getElem?_cons_succ]; rfl
   by_cases hge : p + i ≥ s.length
   ·rw [show decide (((p + i : Nat) : Int) ≥ s.length) = true from decide_eq_true (by omega)]
    have hf : sgB a r (i - 1) = false := by
     have : r[i - 1]? = none := by rw [← hgi]; exact List.getElem?_eq_none hge
     unfold sgB; rw [this]
    rw [k'1k (n := 4 - 1) (show i - 1 < 4 - 1 by omega) hf]
    exact Z
   rw [show decide (((p + i : Nat) : Int) ≥ s.length) = false from decide_eq_false (by omega)]
   obtain ⟨c, hc⟩ : ∃ c, s[p + i]? = some c := ⟨_, List.getElem?_eq_getElem (by omega)⟩
   have hcb := k'2u c
   have hr : r[i - 1]? = some c := by rw [← hgi]; exact hc
   have hsg : sgB a r (i - 1) = (decide ((if i = 1 then 144 else 128 : Nat) ≤ c.toNat) && decide (c.toNat ≤ (if i = 1 then 191 else 191 : Nat))) := by
    unfold sgB
    rw [hr]
    by_cases h1 : i = 1
    ·rw [if_pos h1, if_pos h1]
     simp only
     rw [if_pos (by omega), hsec]
    ·rw [if_neg h1, if_neg h1]
     simp only
     rw [if_neg (by omega), hfol]
   generalize hlo : (if i = 1 then 144 else 128 : Nat) = lo at *
   generalize hhi : (if i = 1 then 191 else 191 : Nat) = hi at *
   refine Y ?_
   rw [show IntKind.i64.wrap ((p : Int) + i) = ((p + i : Nat) : Int) by rw [k'10 (by omega) (by omega)]; omega]
   refine k'1j (.index (k := .i64) (n := (p + i : Nat)) (s := s) (c := c) rfl rfl rfl rfl rfl (by omega) (by rw [Int.toNat_natCast]; exact hc)) rfl rfl rfl rfl ?_
   refine Y ?_
   by_cases hl1 : c.toNat < lo
   ·rw [show decide ((c.toNat : Int) < lo) = true from decide_eq_true (by omega)]
    have hf : sgB a r (i - 1) = false := by rw [hsg, decide_eq_false (show ¬ lo ≤ c.toNat by omega)]; rfl
    rw [k'1k (n := 4 - 1) (show i - 1 < 4 - 1 by omega) hf]
    exact Z
   rw [show decide ((c.toNat : Int) < lo) = false from decide_eq_false (by omega)]
   refine Y ?_
   rw [show IntKind.i64.wrap ((p : Int) + i) = ((p + i : Nat) : Int) by rw [k'10 (by omega) (by omega)]; omega]
   refine k'1j (.index (k := .i64) (n := (p + i : Nat)) (s := s) (c := c) rfl rfl rfl rfl rfl (by omega) (by rw [Int.toNat_natCast]; exact hc)) rfl rfl rfl rfl ?_
   refine Y ?_
   by_cases hl2 : c.toNat > hi
   ·rw [show decide ((c.toNat : Int) > hi) = true from decide_eq_true (by omega)]
    have hf : sgB a r (i - 1) = false := by rw [hsg, decide_eq_false (show ¬ c.toNat ≤ hi by omega), Bool.and_false]
    rw [k'1k (n := 4 - 1) (show i - 1 < 4 - 1 by omega) hf]
    exact Z
   rw [show decide ((c.toNat : Int) > hi) = false from decide_eq_false (by omega)]
   refine Y ?_
   have ht : sgB a r (i - 1) = true := by rw [hsg, decide_eq_true (show lo ≤ c.toNat by omega), decide_eq_true (show c.toNat ≤ hi by omega)]; rfl
   rw [wS i (by omega)]
   exact ⟨i + 1, by omega, ⟨by omega, by omega, by rw [show i + 1 - 1 = (i - 1) + 1 by omega, List.range_succ, List.all_append, i3]; simp [ht]⟩, ⟨rfl, rfl, rfl, by rw [if_neg (by omega)] <;> rfl, by rw [if_neg (by omega)] <;> rfl, rfl, trivial⟩, rfl, k'z rfl⟩
  ·rw [show decide ((i : Int) < 4) = false from decide_eq_false (by omega)]
   have e : i = 4 := by omega
   subst e
   rw [if_pos i3]
   exact Z
 by_cases k8 : a.toNat ≤ 243
 ·clear har
  refine l_bw Tryz.func155 0 [] ?_
  refine k'1 (.index (k := .i64) (n := p) (s := s) (c := a) rfl rfl rfl rfl rfl (by omega) (by rw [Int.toNat_natCast]; exact h0)) rfl rfl ?_
  refine Y ?_
  rw [show decide ((a.toNat : Int) < 128) = false from decide_eq_false (by omega)]
  refine Y ?_
  rw [show decide ((a.toNat : Int) ≥ 194) = true from decide_eq_true (by omega)]
  refine Y ?_
  rw [show decide ((a.toNat : Int) ≤ 223) = false from decide_eq_false (by omega)]
  refine Y ?_
  rw [show decide ((a.toNat : Int) ≥ 224) = true from decide_eq_true (by omega)]
  refine Y ?_
  rw [show decide ((a.toNat : Int) ≤ 239) = false from decide_eq_false (by omega)]
  refine Y ?_
  rw [show decide ((a.toNat : Int) ≥ 240) = true from decide_eq_true (by omega)]
  refine Y ?_
  rw [show decide ((a.toNat : Int) ≤ 244) = true from decide_eq_true (by omega)]
  refine Y ?_
  rw [show ((a.toNat : Int) == 224) = false by simp; omega]
  refine Y ?_
  rw [show ((a.toNat : Int) == 237) = false by simp; omega]
  refine Y ?_
  rw [show ((a.toNat : Int) == 240) = false by simp; omega]
  refine Y ?_
  rw [show ((a.toNat : Int) == 244) = false by simp; omega]
  refine Y ?_
  have hs : szU a.toNat = 4 := by unfold szU; (repeat' split) <;> omega
  have hsec : ∀ c : Nat, secB a.toNat c = (decide (128 ≤ c) && decide (c ≤ 191)) := fun c => by unfold secB folB; (repeat' split) <;> first | rfl | omega | (rw [Bool.eq_iff_iff]; simp <;> omega)
  have hfol : ∀ c : Nat, folB c = (decide (128 ≤ c) && decide (c ≤ 191)) := fun c => rfl
  rw [hs]
  refine k'8 (fun i : Nat => 4 - i) (fun i => [(0, sT s), (1, iT p), (6, iT 4), (7, .d (.int .u8 ((if i = 1 then 128 else 128 : Nat) : Nat))), (8, .d (.int .u8 ((if i = 1 then 191 else 191 : Nat) : Nat))), (9, iT i)]) (fun _ => []) (fun i => 1 ≤ i ∧ i ≤ 4 ∧ (List.range (i - 1)).all (sgB a r) = true) 1 ⟨by omega, by omega, rfl⟩ ⟨rfl, rfl, rfl, rfl, rfl, rfl, trivial⟩ rfl 0 rfl (fun _ => rfl) (fun _ => rfl) (fun _ => rfl) ?_
  rintro i ⟨i1, i2, i3⟩
  refine Y ?_
  by_cases hlt : i < 4
  ·rw [show decide ((i : Int) < 4) = true from decide_eq_true (by omega)]
   refine Y ?_
   rw [show IntKind.i64.wrap ((p : Int) + i) = ((p + i : Nat) : Int) by rw [k'10 (by omega) (by omega)]; omega]
   have hgi : s[p + i]? = r[i - 1]? := by rw [hget i, show i = (i - 1) + 1 by omega, List.getElem?_cons_succ]; rfl
   by_cases hge : p + i ≥ s.length
   ·rw [show decide (((p + i : Nat) : Int) ≥ s.length) = true from decide_eq_true (by omega)]
    have hf : sgB a r (i - 1) = false := by
     have : r[i - 1]? = none := by rw [← hgi]; exact List.getElem?_eq_none hge
     unfold sgB; rw [this]
    rw [k'1k (n := 4 - 1) (show i - 1 < 4 - 1 by omega) hf]
    exact Z
   rw [show decide (((p + i : Nat) : Int) ≥ s.length) = false from decide_eq_false (by omega)]
   obtain ⟨c, hc⟩ : ∃ c, s[p + i]? = some c := ⟨_, List.getElem?_eq_getElem (by omega)⟩
   have hcb := k'2u c
   have hr : r[i - 1]? = some c := by rw [← hgi]; exact hc
   have hsg : sgB a r (i - 1) = (decide ((if i = 1 then 128 else 128 : Nat) ≤ c.toNat) && decide (c.toNat ≤ (if i = 1 then 191 else 191 : Nat))) := by
    unfold sgB
    rw [hr]
    by_cases h1 : i = 1
    ·rw [if_pos h1, if_pos h1]
     simp only
     rw [if_pos (by omega), hsec]
    ·rw [if_neg h1, if_neg h1]
     simp only
     rw [if_neg (by omega), hfol]
   generalize hlo : (if i = 1 then 128 else 128 : Nat) = lo at *
   generalize hhi : (if i = 1 then 191 else 191 : Nat) = hi at *
   refine Y ?_
   rw [show IntKind.i64.wrap ((p : Int) + i) = ((p + i : Nat) : Int) by rw [k'10 (by omega) (by omega)]; omega]
   refine k'1j (.index (k := .i64) (n := (p + i : Nat)) (s := s) (c := c) rfl rfl rfl rfl rfl (by omega) (by rw [Int.toNat_natCast]; exact hc)) rfl rfl rfl rfl ?_
   refine Y ?_
   by_cases hl1 : c.toNat < lo
   ·rw [show decide ((c.toNat : Int) < lo) = true from decide_eq_true (by omega)]
    have hf : sgB a r (i - 1) = false := by rw [hsg, decide_eq_false (show ¬ lo ≤ c.toNat by omega)]; rfl
    rw [k'1k (n := 4 - 1) (show i - 1 < 4 - 1 by omega) hf]
    exact Z
   rw [show decide ((c.toNat : Int) < lo) = false from decide_eq_false (by omega)]
   refine Y ?_
   rw [show IntKind.i64.wrap ((p : Int) + i) = ((p + i : Nat) : Int) by rw [k'10 (by omega) (by omega)]; omega]
   refine k'1j (.index (k := .i64) (n := (p + i : Nat)) (s := s) (c := c) rfl rfl rfl rfl rfl (by omega) (by rw [Int.toNat_natCast]; exact hc)) rfl rfl rfl rfl ?_
   refine Y ?_
   by_cases hl2 : c.toNat > hi
   ·rw [show decide ((c.toNat : Int) > hi) = true from decide_eq_true (by omega)]
    have hf : sgB a r (i - 1) = false := by rw [hsg, decide_eq_false (show ¬ c.toNat ≤ hi by omega), Bool.and_false]
    rw [k'1k (n := 4 - 1) (show i - 1 < 4 - 1 by omega) hf]
    exact Z
   rw [show decide ((c.toNat : Int) > hi) = false from decide_eq_false (by omega)]
   refine Y ?_
   have ht : sgB a r (i - 1) = true := by rw [hsg, decide_eq_true (show lo ≤ c.toNat by omega), decide_eq_true (show c.toNat ≤ hi by omega)]; rfl
   rw [wS i (by omega)]
   exact ⟨i + 1, by omega, ⟨by omega, by omega, by rw [show i + 1 - 1 = (i - 1) + 1 by omega, List.range_succ, List.all_append, i3]; simp [ht]⟩, ⟨rfl, rfl, rfl, by rw [if_neg (by omega)] <;> rfl, by rw [if_neg (by omega)] <;> rfl, rfl, trivial⟩, rfl, k'z rfl⟩
  ·rw [show decide ((i : Int) < 4) = false from decide_eq_false (by omega)]
   have e : i = 4 := by omega
   subst e
   rw [if_pos i3]
   exact Z
 by_cases k9 : a.toNat ≤ 244
 ·clear har
  refine l_bw Tryz.func155 0 [] ?_
  refine k'1 (.index (k := .i64) (n := p) (s := s) (c := a) rfl rfl rfl rfl rfl (by omega) (by rw [Int.toNat_natCast]; exact h0)) rfl rfl ?_
  refine Y ?_
  rw [show decide ((a.toNat : Int) < 128) = false from decide_eq_false (by omega)]
  refine Y ?_
  rw [show decide ((a.toNat : Int) ≥ 194) = true from decide_eq_true (by omega)]
  refine Y ?_
  rw [show decide ((a.toNat : Int) ≤ 223) = false from decide_eq_false (by omega)]
  refine Y ?_
  rw [show decide ((a.toNat : Int) ≥ 224) = true from decide_eq_true (by omega)]
  refine Y ?_
  rw [show decide ((a.toNat : Int) ≤ 239) = false from decide_eq_false (by omega)]
  refine Y ?_
  rw [show decide ((a.toNat : Int) ≥ 240) = true from decide_eq_true (by omega)]
  refine Y ?_
  rw [show decide ((a.toNat : Int) ≤ 244) = true from decide_eq_true (by omega)]
  refine Y ?_
  rw [show ((a.toNat : Int) == 224) = false by simp; omega]
  refine Y ?_
  rw [show ((a.toNat : Int) == 237) = false by simp; omega]
  refine Y ?_
  rw [show ((a.toNat : Int) == 240) = false by simp; omega]
  refine Y ?_
  rw [show ((a.toNat : Int) == 244) = true by simp; omega]
  refine Y ?_
  have hs : szU a.toNat = 4 := by unfold szU; (repeat' split) <;> omega
  have hsec : ∀ c : Nat, secB a.toNat c = (decide (128 ≤ c) && decide (c ≤ 143)) := fun c => by unfold secB folB; (repeat' split) <;> first | rfl | omega | (rw [Bool.eq_iff_iff]; simp <;> omega)
  have hfol : ∀ c : Nat, folB c = (decide (128 ≤ c) && decide (c ≤ 191)) := fun c => rfl
  rw [hs]
  refine k'8 (fun i : Nat => 4 - i) (fun i => [(0, sT s), (1, iT p), (6, iT 4), (7, .d (.int .u8 ((if i = 1 then 128 else 128 : Nat) : Nat))), (8, .d (.int .u8 ((if i = 1 then 143 else 191 : Nat) : Nat))), (9, iT i)]) (fun _ => []) (fun i => 1 ≤ i ∧ i ≤ 4 ∧ (List.range (i - 1)).all (sgB a r) = true) 1 ⟨by omega, by omega, rfl⟩ ⟨rfl, rfl, rfl, rfl, rfl, rfl, trivial⟩ rfl 0 rfl (fun _ => rfl) (fun _ => rfl) (fun _ => rfl) ?_
  rintro i ⟨i1, i2, i3⟩
  refine Y ?_
  by_cases hlt : i < 4
  ·rw [show decide ((i : Int) < 4) = true from decide_eq_true (by omega)]
   refine Y ?_
   rw [show IntKind.i64.wrap ((p : Int) + i) = ((p + i : Nat) : Int) by rw [k'10 (by omega) (by omega)]; omega]
   have hgi : s[p + i]? = r[i - 1]? := by rw [hget i, show i = (i - 1) + 1 by omega, List.getElem?_cons_succ]; rfl
   by_cases hge : p + i ≥ s.length
   ·rw [show decide (((p + i : Nat) : Int) ≥ s.length) = true from decide_eq_true (by omega)]
    have hf : sgB a r (i - 1) = false := by
     have : r[i - 1]? = none := by rw [← hgi]; exact List.getElem?_eq_none hge
     unfold sgB; rw [this]
    rw [k'1k (n := 4 - 1) (show i - 1 < 4 - 1 by omega) hf]
    exact Z
   rw [show decide (((p + i : Nat) : Int) ≥ s.length) = false from decide_eq_false (by omega)]
   obtain ⟨c, hc⟩ : ∃ c, s[p + i]? = some c := ⟨_, List.getElem?_eq_getElem (by omega)⟩
   have hcb := k'2u c
   have hr : r[i - 1]? = some c := by rw [← hgi]; exact hc
   have hsg : sgB a r (i - 1) = (decide ((if i = 1 then 128 else 128 : Nat) ≤ c.toNat) && decide (c.toNat ≤ (if i = 1 then 143 else 191 : Nat))) := by
    unfold sgB
    rw [hr]
    by_cases h1 : i = 1
    ·rw [if_pos h1, if_pos h1]
     simp only
     rw [if_pos (by omega), hsec]
    ·rw [if_neg h1, if_neg h1]
     simp only
     rw [if_neg (by omega), hfol]
   generalize hlo : (if i = 1 then 128 else 128 : Nat) = lo at *
   generalize hhi : (if i = 1 then 143 else 191 : Nat) = hi at *
   refine Y ?_
   rw [show IntKind.i64.wrap ((p : Int) + i) = ((p + i : Nat) : Int) by rw [k'10 (by omega) (by omega)]; omega]
   refine k'1j (.index (k := .i64) (n := (p + i : Nat)) (s := s) (c := c) rfl rfl rfl rfl rfl (by omega) (by rw [Int.toNat_natCast]; exact hc)) rfl rfl rfl rfl ?_
   refine Y ?_
   by_cases hl1 : c.toNat < lo
   ·rw [show decide ((c.toNat : Int) < lo) = true from decide_eq_true (by omega)]
    have hf : sgB a r (i - 1) = false := by rw [hsg, decide_eq_false (show ¬ lo ≤ c.toNat by omega)]; rfl
    rw [k'1k (n := 4 - 1) (show i - 1 < 4 - 1 by omega) hf]
    exact Z
   rw [show decide ((c.toNat : Int) < lo) = false from decide_eq_false (by omega)]
   refine Y ?_
   rw [show IntKind.i64.wrap ((p : Int) + i) = ((p + i : Nat) : Int) by rw [k'10 (by omega) (by omega)]; omega]
   refine k'1j (.index (k := .i64) (n := (p + i : Nat)) (s := s) (c := c) rfl rfl rfl rfl rfl (by omega) (by rw [Int.toNat_natCast]; exact hc)) rfl rfl rfl rfl ?_
   refine Y ?_
   by_cases hl2 : c.toNat > hi
   ·rw [show decide ((c.toNat : Int) > hi) = true from decide_eq_true (by omega)]
    have hf : sgB a r (i - 1) = false := by rw [hsg, decide_eq_false (show ¬ c.toNat ≤ hi by omega), Bool.and_false]
    rw [k'1k (n := 4 - 1) (show i - 1 < 4 - 1 by omega) hf]
    exact Z
   rw [show decide ((c.toNat : Int) > hi) = false from decide_eq_false (by omega)]
   refine Y ?_
   have ht : sgB a r (i - 1) = true := by rw [hsg, decide_eq_true (show lo ≤ c.toNat by omega), decide_eq_true (show c.toNat ≤ hi by omega)]; rfl
   rw [wS i (by omega)]
   exact ⟨i + 1, by omega, ⟨by omega, by omega, by rw [show i + 1 - 1 = (i - 1) + 1 by omega, List.range_succ, List.all_append, i3]; simp [ht]⟩, ⟨rfl, rfl, rfl, by rw [if_neg (by omega)] <;> rfl, by rw [if_neg (by omega)] <;> rfl, rfl, trivial⟩, rfl, k'z rfl⟩
  ·rw [show decide ((i : Int) < 4) = false from decide_eq_false (by omega)]
   have e : i = 4 := by omega
   subst e
   rw [if_pos i3]
   exact Z
 ·clear har
  refine l_bw Tryz.func155 0 [] ?_
  refine k'1 (.index (k := .i64) (n := p) (s := s) (c := a) rfl rfl rfl rfl rfl (by omega) (by rw [Int.toNat_natCast]; exact h0)) rfl rfl ?_
  refine Y ?_
  rw [show decide ((a.toNat : Int) < 128) = false from decide_eq_false (by omega)]
  refine Y ?_
  rw [show decide ((a.toNat : Int) ≥ 194) = true from decide_eq_true (by omega)]
  refine Y ?_
  rw [show decide ((a.toNat : Int) ≤ 223) = false from decide_eq_false (by omega)]
  refine Y ?_
  rw [show decide ((a.toNat : Int) ≥ 224) = true from decide_eq_true (by omega)]
  refine Y ?_
  rw [show decide ((a.toNat : Int) ≤ 239) = false from decide_eq_false (by omega)]
  refine Y ?_
  rw [show decide ((a.toNat : Int) ≥ 240) = true from decide_eq_true (by omega)]
  refine Y ?_
  rw [show decide ((a.toNat : Int) ≤ 244) = false from decide_eq_false (by omega)]
  refine Y ?_
  have hs : szU a.toNat = 0 := by unfold szU; (repeat' split) <;> omega
  rw [hs]
  exact k'i rfl
theorem whF_zero (s : List UInt8) (f a : Nat) (h : a < s.length) (hz : signN (s.drop a) = 0) : whF (f + 1) s a = a := by unfold whF; rw [if_pos h, if_pos hz]
theorem whF_step (s : List UInt8) (f a : Nat) (h : a < s.length) (hz : signN (s.drop a) ≠ 0) : whF (f + 1) s a = whF f s (a + signN (s.drop a)) := by
 rw [show whF (f + 1) s a = (if a < s.length then (if signN (s.drop a) = 0 then a else whF f s (a + signN (s.drop a))) else a) from rfl, if_pos h, if_neg hz]
theorem whF_end (s : List UInt8) (f a : Nat) (h : ¬ a < s.length) : whF f s a = a := by
 cases f with
 | zero => rfl
 | succ f => unfold whF; rw [if_neg h]
def badN (s : List UInt8) : Int := if whU s = s.length then -1 else whU s
theorem rBad_calls (s : List UInt8) (hl : s.length < big) : k'0 (cx B) 104 [sT s] [] (.d (.int .i64 (badN s))) [] := by
 have hl' := hl
 unfold big at hl'
 unfold badN
 refine l_bw Tryz.func104 0 [] ?_
 refine k'8 (fun y : Nat × Nat => y.2) (fun y => [(0, sT s), (3, iT y.1)]) (fun _ => []) (fun y => y.1 ≤ s.length ∧ s.length - y.1 < y.2 ∧ whU s = whF y.2 s y.1) (0, s.length + 1) ⟨by omega, by show _ - 0 < _; omega, rfl⟩ ⟨rfl, rfl, trivial⟩ rfl 0 rfl (fun _ => rfl) (fun _ => rfl) (fun _ => rfl) ?_
 rintro ⟨a, f⟩ ⟨i1, i2, i3⟩
 dsimp only at i1 i2 i3 ⊢
 refine Y ?_
 by_cases hlt : a < s.length
 ·rw [show decide ((a : Int) < s.length) = true from decide_eq_true (by omega)]
  have hc := rSign_calls B s a hlt hl
  obtain ⟨f, rfl⟩ : ∃ g, f = g + 1 := ⟨f - 1, by omega⟩
  refine Y ?_
  refine l_cw [] (hc) rfl rfl rfl ?_
  by_cases hz : signN (s.drop a) = 0
  ·rw [show ((signN (s.drop a) : Int) == 0) = true by simp [hz]]
   rw [i3, whF_zero s f a hlt hz, if_neg (by omega)]
   exact Z
  ·rw [show ((signN (s.drop a) : Int) == 0) = false by simp [hz]]
   have h4 := signN_le (s.drop a)
   rw [List.length_drop] at h4
   refine Y ?_
   rw [show IntKind.i64.wrap ((a : Int) + signN (s.drop a)) = ((a + signN (s.drop a) : Nat) : Int) by rw [k'10 (by omega) (by omega)]; omega]
   exact ⟨(a + signN (s.drop a), f), Nat.lt_succ_self f, ⟨by show a + _ ≤ _; omega, by show s.length - (a + _) < _; omega, by rw [i3, whF_step s f a hlt hz]⟩, ⟨rfl, rfl, trivial⟩, rfl, k'z rfl⟩
 ·rw [show decide ((a : Int) < s.length) = false from decide_eq_false (by omega)]
  rw [i3, whF_end s f a hlt, if_pos (by omega)]
  exact Z
theorem badN_txt (s : List UInt8) : decide (badN s < 0) = txt s := by
 unfold badN txt
 by_cases h : whU s = s.length
 ·rw [if_pos h, h]; simp
 ·rw [if_neg h, show (whU s == s.length) = false by simpa using h]; simp
theorem k'17 (s : List UInt8) (hl : s.length < big) : k'0 (cx B) 54 [sT s] [] (.d (.bool (txt s))) [] := by
 have h := rBad_calls B s hl
 refine l_bw Tryz.func54 0 [] ?_
 refine l_cw [] (h) rfl rfl rfl ?_
 rw [badN_txt]
 exact k'i rfl
