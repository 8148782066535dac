/- Texts: where the signs end; is it one? And more. -/
import Derived.Test.YtcfkbpddmdfbaaaGreatDoorPG
set_option linter.unusedSimpArgs false
set_option linter.unusedVariables false
set_option maxRecDepth 100000
/-! Texts: where the signs end; is it one? -/
namespace Go.Proofs.YtcfkbpddmdfbaaaGreatDoor
open Go Go.Abs
def folB (c : Nat) : Bool := decide (128 ≤ c) && decide (c ≤ 191)
def szU (c : Nat) : Nat := if 244 < c ∨ (128 ≤ c ∧ c < 194) then 0 else if 240 ≤ c then 4 else if 224 ≤ c then 3 else if 194 ≤ c then 2 else 1
def secB (a c : Nat) : Bool :=
 if a = 224 then decide (160 ≤ c) && folB c else if a = 237 then decide (c ≤ 159) && folB c else if a = 240 then decide (144 ≤ c) && folB c else if a = 244 then decide (c ≤ 143) && folB c else folB c
def signN : List UInt8 → Nat
 | [] => 0
 | a :: r => if r.length + 1 < szU a.toNat then 0 else if 1 < szU a.toNat ∧ secB a.toNat ((r.headD 0).toNat) = false then 0 else if ((r.drop 1).take (szU a.toNat - 2)).all (fun c => folB c.toNat) then szU a.toNat else 0
theorem szU_le (c : Nat) : szU c ≤ 4 := by unfold szU; split; omega; split; omega; split; omega; split <;> omega
theorem signN_cons (a : UInt8) (r : List UInt8) : signN (a :: r) = if r.length + 1 < szU a.toNat then 0 else if 1 < szU a.toNat ∧ secB a.toNat ((r.headD 0).toNat) = false then 0 else if ((r.drop 1).take (szU a.toNat - 2)).all (fun c => folB c.toNat) then szU a.toNat else 0 := rfl
theorem signN_le (l : List UInt8) : signN l ≤ l.length ∧ signN l ≤ 4 := by
 cases l with
 | nil => simp [signN]
 | cons a r =>
  have := szU_le a.toNat
  rw [signN_cons]
  by_cases h1 : r.length + 1 < szU a.toNat
  ·rw [if_pos h1]; omega
  rw [if_neg h1]
  by_cases h2 : 1 < szU a.toNat ∧ secB a.toNat ((r.headD 0).toNat) = false
  ·rw [if_pos h2]; omega
  rw [if_neg h2]
  cases ((r.drop 1).take (szU a.toNat - 2)).all (fun c => folB c.toNat) with
  | true => simp only [if_true, List.length_cons]; omega
  | false => simp
def whF : Nat → List UInt8 → Nat → Nat
 | 0, _, a => a
 | f + 1, s, a => if a < s.length then (if signN (s.drop a) = 0 then a else whF f s (a + signN (s.drop a))) else a
def whU (s : List UInt8) : Nat := whF (s.length + 1) s 0
def txt (s : List UInt8) : Bool := whU s == s.length
variable (B : Fr)
theorem k'3y (c : UInt8) : k'0 (cx B) 277 [.d (k'27 c)] [] (.d (.bool (folB c.toNat))) [] := by
 unfold folB
 refine l_bw Tryz.func277 0 [] ?_
 by_cases h : 128 ≤ c.toNat
 ·rw [show decide ((c.toNat : Int) ≥ 128) = true from decide_eq_true (by omega), decide_eq_true h]
  refine Y ?_
  rw [show decide ((c.toNat : Int) ≤ 191) = decide (c.toNat ≤ 191) from decide_eq_decide.2 (by omega)]
  exact k'i rfl
 ·rw [show decide ((c.toNat : Int) ≥ 128) = false from decide_eq_false (by omega), decide_eq_false h]
  exact Z
theorem size_calls (c : UInt8) : k'0 (cx B) 275 [.d (k'27 c)] [] (iT (szU c.toNat)) [] := by
 have hc := k'2u c
 unfold szU
 refine l_bw Tryz.func275 0 [] ?_
 by_cases h1 : 244 < c.toNat
 ·rw [show decide ((c.toNat : Int) > 244) = true from decide_eq_true (by omega), if_pos (.inl h1)]
  exact Z
 rw [show decide ((c.toNat : Int) > 244) = false from decide_eq_false (by omega)]
 refine Y ?_
 by_cases h2 : 128 ≤ c.toNat ∧ c.toNat < 194
 ·rw [show decide ((c.toNat : Int) ≥ 128) = true from decide_eq_true (by omega), if_pos (.inr h2)]
  refine Y ?_
  rw [show decide ((c.toNat : Int) < 194) = true from decide_eq_true (by omega)]
  exact Z
 rw [if_neg (by omega)]
 have key : (decide ((c.toNat : Int) ≥ 128) = false) ∨ (decide ((c.toNat : Int) ≥ 128) = true ∧ decide ((c.toNat : Int) < 194) = false) := by
  by_cases h : 128 ≤ c.toNat
  ·exact .inr ⟨decide_eq_true (by omega), decide_eq_false (by omega)⟩
  ·exact .inl (decide_eq_false (by omega))
 rcases key with hk | ⟨hk, hk2⟩
 ·rw [hk]
  refine Y ?_
  rw [show decide ((c.toNat : Int) ≥ 240) = false from decide_eq_false (by have := of_decide_eq_false hk; omega)]
  refine Y ?_
  rw [show decide ((c.toNat : Int) ≥ 224) = false from decide_eq_false (by have := of_decide_eq_false hk; omega)]
  refine Y ?_
  rw [show decide ((c.toNat : Int) ≥ 194) = false from decide_eq_false (by have := of_decide_eq_false hk; omega)]
  refine Y ?_
  have := of_decide_eq_false hk
  rw [if_neg (by omega), if_neg (by omega), if_neg (by omega)]
  exact k'i rfl
 ·rw [hk]
  refine Y ?_
  rw [hk2]
  refine Y ?_
  by_cases h3 : 240 ≤ c.toNat
  ·rw [show decide ((c.toNat : Int) ≥ 240) = true from decide_eq_true (by omega), if_pos h3]
   exact Z
  rw [show decide ((c.toNat : Int) ≥ 240) = false from decide_eq_false (by omega), if_neg h3]
  refine Y ?_
  by_cases h4 : 224 ≤ c.toNat
  ·rw [show decide ((c.toNat : Int) ≥ 224) = true from decide_eq_true (by omega), if_pos h4]
   exact Z
  rw [show decide ((c.toNat : Int) ≥ 224) = false from decide_eq_false (by omega), if_neg h4]
  refine Y ?_
  have := of_decide_eq_false hk2
  rw [show decide ((c.toNat : Int) ≥ 194) = true from decide_eq_true (by omega), if_pos (by omega)]
  exact Z
theorem second_calls (a c : UInt8) : k'0 (cx B) 276 [.d (k'27 a), .d (k'27 c)] [] (.d (.bool (secB a.toNat c.toNat))) [] := by
 have hf := k'3y B c
 unfold secB
 have beq : ∀ k : Nat, ((a.toNat : Int) == (k : Int)) = decide (a.toNat = k) := fun k => by
  by_cases h : a.toNat = k
  ·rw [h]; simp
  ·rw [decide_eq_false h]; simp; omega
 refine l_bw Tryz.func276 0 [] ?_
 by_cases h1 : a.toNat = 224
 ·rw [show ((a.toNat : Int) == 224) = true by rw [h1]; rfl, if_pos h1]
  refine Y ?_
  by_cases h : 160 ≤ c.toNat
  ·rw [show decide ((c.toNat : Int) ≥ 160) = true from decide_eq_true (by omega), decide_eq_true h]
   refine Y ?_
   refine k'a [] (hf) rfl rfl rfl rfl rfl ?_
   exact Z
  ·rw [show decide ((c.toNat : Int) ≥ 160) = false from decide_eq_false (by omega), decide_eq_false h]
   exact Z
 rw [show ((a.toNat : Int) == 224) = false by simp; omega, if_neg h1]
 refine Y ?_
 by_cases h2 : a.toNat = 237
 ·rw [show ((a.toNat : Int) == 237) = true by rw [h2]; rfl, if_pos h2]
  refine Y ?_
  by_cases h : c.toNat ≤ 159
  ·rw [show decide ((c.toNat : Int) ≤ 159) = true from decide_eq_true (by omega), decide_eq_true h]
   refine Y ?_
   refine k'a [] (hf) rfl rfl rfl rfl rfl ?_
   exact Z
  ·rw [show decide ((c.toNat : Int) ≤ 159) = false from decide_eq_false (by omega), decide_eq_false h]
   exact Z
 rw [show ((a.toNat : Int) == 237) = false by simp; omega, if_neg h2]
 refine Y ?_
 by_cases h3 : a.toNat = 240
 ·rw [show ((a.toNat : Int) == 240) = true by rw [h3]; rfl, if_pos h3]
  refine Y ?_
  by_cases h : 144 ≤ c.toNat
  ·rw [show decide ((c.toNat : Int) ≥ 144) = true from decide_eq_true (by omega), decide_eq_true h]
   refine Y ?_
   refine k'a [] (hf) rfl rfl rfl rfl rfl ?_
   exact Z
  ·rw [show decide ((c.toNat : Int) ≥ 144) = false from decide_eq_false (by omega), decide_eq_false h]
   exact Z
 rw [show ((a.toNat : Int) == 240) = false by simp; omega, if_neg h3]
 refine Y ?_
 by_cases h4 : a.toNat = 244
 ·rw [show ((a.toNat : Int) == 244) = true by rw [h4]; rfl, if_pos h4]
  refine Y ?_
  by_cases h : c.toNat ≤ 143
  ·rw [show decide ((c.toNat : Int) ≤ 143) = true from decide_eq_true (by omega), decide_eq_true h]
   refine Y ?_
   refine k'a [] (hf) rfl rfl rfl rfl rfl ?_
   exact Z
  ·rw [show decide ((c.toNat : Int) ≤ 143) = false from decide_eq_false (by omega), decide_eq_false h]
   exact Z
 rw [show ((a.toNat : Int) == 244) = false by simp; omega, if_neg h4]
 refine Y ?_
 refine k'2 [] (hf) rfl rfl rfl ?_
 exact Z
theorem sign_calls (a : UInt8) (r : List UInt8) (hl : r.length < big) : k'0 (cx B) 208 [sT (a :: r)] [] (iT (signN (a :: r))) [] := by
 have h4 := szU_le a.toNat
 have h1 := size_calls B a
 unfold big at hl
 have hlen : ((a :: r).length : Int) = r.length + 1 := by simp
 rw [signN_cons]
 generalize szU a.toNat = n at *
 refine l_bw Tryz.func208 0 [] ?_
 refine k'1 (.index (k := .i64) (n := 0) (s := a :: r) (c := a) rfl rfl rfl rfl rfl (by omega) rfl) rfl rfl ?_
 refine l_cw [] (h1) rfl rfl rfl ?_
 refine xw ?_
 rw [hlen]
 by_cases c1 : r.length + 1 < n
 ·rw [show decide ((n : Int) > (r.length : Int) + 1) = true from decide_eq_true (by omega), if_pos c1]
  exact Z
 rw [show decide ((n : Int) > (r.length : Int) + 1) = false from decide_eq_false (by omega), if_neg c1]
 refine xw ?_
 by_cases c2 : 1 < n
 ·rw [show decide ((n : Int) > 1) = true from decide_eq_true (by omega)]
  obtain ⟨b, q, hr⟩ : ∃ b q, r = b :: q := by
   cases r with
   | nil => simp at c1; omega
   | cons b q => exact ⟨b, q, rfl⟩
  have h2 := second_calls B a b
  have hr0 : (a :: r)[1]? = some b := by rw [hr]; rfl
  have hb : r.headD 0 = b := by rw [hr]; rfl
  clear hr
  rw [hb]
  refine xw ?_
  refine k'12 (.index (k := .i64) (n := 0) (s := a :: r) (c := a) rfl rfl rfl rfl rfl (by omega) rfl) rfl rfl rfl ?_
  refine xw ?_
  refine k'12 (.index (k := .i64) (n := 1) (s := a :: r) (c := b) rfl rfl rfl rfl rfl (by omega) hr0) rfl rfl rfl ?_
  refine k'3 [] (h2) rfl rfl rfl ?_
  cases hsc : secB a.toNat b.toNat with
  | false =>
   rw [if_pos ⟨c2, rfl⟩]
   exact Z
  | true =>
  rw [if_neg (by simp)]
  refine Y ?_
  refine k'8 (fun i : Nat => n - i) (fun i => [(0, sT (a :: r)), (3, iT n), (4, iT i)]) (fun _ => []) (fun i => 2 ≤ i ∧ (i ≤ n ∨ i = 2) ∧ ((r.drop 1).take (i - 2)).all (fun c => folB c.toNat) = true) 2 ⟨by omega, .inr rfl, by simp⟩ ⟨rfl, rfl, rfl, trivial⟩ rfl 0 rfl (fun _ => rfl) (fun _ => rfl) (fun _ => rfl) ?_
  rintro i ⟨i1, i2, i3⟩
  refine Y ?_
  by_cases hlt : i < n
  ·rw [show decide ((i : Int) < n) = true from decide_eq_true (by omega)]
   obtain ⟨c, hci⟩ : ∃ c, (a :: r)[i]? = some c := ⟨_, List.getElem?_eq_getElem (by simp; omega)⟩
   have hdi : (r.drop 1)[i - 2]? = some c := by
    rw [List.getElem?_drop]
    rw [show i = (1 + (i - 2)) + 1 by omega, List.getElem?_cons_succ] at hci
    exact hci
   have htk : (r.drop 1).take (i + 1 - 2) = (r.drop 1).take (i - 2) ++ [c] := by
    rw [show i + 1 - 2 = (i - 2) + 1 by omega, List.take_add_one, hdi]; rfl
   have hf := k'3y B c
   refine Y ?_
   refine k'1 (.index (k := .i64) (n := i) (s := a :: r) (c := c) rfl rfl rfl rfl rfl (by omega) (by rw [Int.toNat_natCast]; exact hci)) rfl rfl ?_
   refine l_cw [] (hf) rfl rfl rfl ?_
   cases hfc : folB c.toNat
   ·have : ((r.drop 1).take (n - 2)).all (fun c => folB c.toNat) = false := by
     cases hh : ((r.drop 1).take (n - 2)).all (fun c => folB c.toNat) with
     | false => rfl
     | true =>
      have := List.all_eq_true.1 hh c (List.mem_of_getElem? (i := i - 2) (by rw [List.getElem?_take_of_lt (by omega)]; exact hdi))
      rw [hfc] at this; simp at this
    rw [this]
    exact Z
   refine Y ?_
   rw [wS i (by omega)]
   exact ⟨i + 1, by omega, ⟨by omega, .inl (by omega), by rw [htk, List.all_append, i3]; simp [hfc]⟩, ⟨rfl, rfl, rfl, trivial⟩, rfl, k'z rfl⟩
  ·rw [show decide ((i : Int) < n) = false from decide_eq_false (by omega)]
   have : ((r.drop 1).take (n - 2)).all (fun c => folB c.toNat) = true := by
    rcases i2 with h | h
    ·rw [show n = i by omega]; exact i3
    ·rw [show n - 2 = 0 by omega]; simp
   rw [this]
   exact Z
 ·rw [show decide ((n : Int) > 1) = false from decide_eq_false (by omega), if_neg (fun h => c2 h.1)]
  refine Y ?_
  refine k'8 (fun i : Nat => n - i) (fun i => [(0, sT (a :: r)), (3, iT n), (4, iT i)]) (fun _ => []) (fun i => 2 ≤ i ∧ (i ≤ n ∨ i = 2) ∧ ((r.drop 1).take (i - 2)).all (fun c => folB c.toNat) = true) 2 ⟨by omega, .inr rfl, by simp⟩ ⟨rfl, rfl, rfl, trivial⟩ rfl 0 rfl (fun _ => rfl) (fun _ => rfl) (fun _ => rfl) ?_
  rintro i ⟨i1, i2, i3⟩
  refine Y ?_
  by_cases hlt : i < n
  ·rw [show decide ((i : Int) < n) = true from decide_eq_true (by omega)]
   obtain ⟨c, hci⟩ : ∃ c, (a :: r)[i]? = some c := ⟨_, List.getElem?_eq_getElem (by simp; omega)⟩
   have hdi : (r.drop 1)[i - 2]? = some c := by
    rw [List.getElem?_drop]
    rw [show i = (1 + (i - 2)) + 1 by omega, List.getElem?_cons_succ] at hci
    exact hci
   have htk : (r.drop 1).take (i + 1 - 2) = (r.drop 1).take (i - 2) ++ [c] := by
    rw [show i + 1 - 2 = (i - 2) + 1 by omega, List.take_add_one, hdi]; rfl
   have hf := k'3y B c
   refine Y ?_
   refine k'1 (.index (k := .i64) (n := i) (s := a :: r) (c := c) rfl rfl rfl rfl rfl (by omega) (by rw [Int.toNat_natCast]; exact hci)) rfl rfl ?_
   refine l_cw [] (hf) rfl rfl rfl ?_
   cases hfc : folB c.toNat
   ·have : ((r.drop 1).take (n - 2)).all (fun c => folB c.toNat) = false := by
     cases hh : ((r.drop 1).take (n - 2)).all (fun c => folB c.toNat) with
     | false => rfl
     | true =>
      have := List.all_eq_true.1 hh c (List.mem_of_getElem? (i := i - 2) (by rw [List.getElem?_take_of_lt (by omega)]; exact hdi))
      rw [hfc] at this; simp at this
    rw [this]
    exact Z
   refine Y ?_
   rw [wS i (by omega)]
   exact ⟨i + 1, by omega, ⟨by omega, .inl (by omega), by rw [htk, List.all_append, i3]; simp [hfc]⟩, ⟨rfl, rfl, rfl, trivial⟩, rfl, k'z rfl⟩
  ·rw [show decide ((i : Int) < n) = false from decide_eq_false (by omega)]
   have : ((r.drop 1).take (n - 2)).all (fun c => folB c.toNat) = true := by
    rcases i2 with h | h
    ·rw [show n = i by omega]; exact i3
    ·rw [show n - 2 = 0 by omega]; simp
   rw [this]
   exact Z
theorem whole_calls (s : List UInt8) (hl : s.length < big) : k'0 (cx B) 154 [sT s, iT s.length] [] (iT (whU s)) [] := by
 have hl' := hl
 unfold big at hl'
 refine l_bw Tryz.func154 0 [] ?_
 refine k'8 (fun x : Nat × Nat => x.2) (fun x => [(0, sT s), (1, iT s.length), (5, iT x.1)]) (fun _ => []) (fun x => x.1 ≤ s.length ∧ s.length - x.1 < x.2 ∧ whU s = whF x.2 s x.1) (0, s.length + 1) ⟨by omega, by show s.length - 0 < s.length + 1; omega, rfl⟩ ⟨rfl, rfl, rfl, trivial⟩ rfl 0 rfl (fun _ => rfl) (fun _ => rfl) (fun _ => rfl) ?_
 rintro ⟨p, f⟩ ⟨i1, i2, i3⟩
 dsimp only at i1 i2 i3 ⊢
 cases f with
 | zero => omega
 | succ f =>
 unfold whF at i3
 refine Y ?_
 by_cases hp : p < s.length
 ·rw [show decide ((p : Int) < s.length) = true from decide_eq_true (by omega)]
  rw [if_pos hp] at i3
  obtain ⟨c, hci⟩ : ∃ c, s[p]? = some c := ⟨_, List.getElem?_eq_getElem hp⟩
  have hdr : s.drop p = c :: s.drop (p + 1) := by
   rw [List.drop_eq_getElem_cons hp]; rw [List.getElem?_eq_getElem hp] at hci; injection hci with hci; rw [hci]
  have h1 := sign_calls B c (s.drop (p + 1)) (by simp; omega)
  have hle := (signN_le (s.drop p)).1
  rw [← hdr] at h1
  simp only [List.length_drop] at hle
  generalize signN (s.drop p) = n at *
  refine Y ?_
  refine k'1 (.sliceStr (s := s) (l := p) (h := s.length) rfl rfl rfl rfl ⟨.i64, rfl⟩ rfl (by omega) (Nat.le_refl _)) rfl rfl ?_
  rw [drop_take_all]
  refine l_cw [] (h1) rfl rfl rfl ?_
  by_cases h0 : n = 0
  ·rw [show ((n : Int) == 0) = true by rw [h0]; rfl]
   rw [if_pos h0] at i3
   refine Y ?_
   rw [i3]
   exact k'i rfl
  ·rw [show ((n : Int) == 0) = false by simp; omega]
   rw [if_neg h0] at i3
   refine Y ?_
   rw [show IntKind.i64.wrap ((s.length : Int) - p) = (s.length : Int) - p from k'10 (by omega) (by omega), show decide ((n : Int) > (s.length : Int) - p) = false from decide_eq_false (by omega)]
   refine Y ?_
   rw [show IntKind.i64.wrap ((p : Int) + n) = ((p + n : Nat) : Int) by rw [k'10 (by omega) (by omega)]; omega]
   exact ⟨(p + n, f), Nat.lt_succ_self f, ⟨by show p + n ≤ _; omega, by show s.length - (p + n) < f; omega, i3⟩, ⟨rfl, rfl, rfl, trivial⟩, rfl, k'z rfl⟩
 ·rw [show decide ((p : Int) < s.length) = false from decide_eq_false (by omega)]
  rw [if_neg hp] at i3
  rw [i3]
  exact Z
theorem Bad_calls (s : List UInt8) (hl : s.length < big) : k'0 (cx B) 103 [sT s] [] (.d (.int .i64 (if txt s then -1 else whU s))) [] := by
 have h1 := whole_calls B s hl
 unfold txt
 refine l_bw Tryz.func103 0 [] ?_
 refine l_cw [] (h1) rfl rfl rfl ?_
 by_cases h : whU s = s.length
 ·rw [show ((whU s : Int) == s.length) = true by rw [h]; simp, show (whU s == s.length) = true by simp [h]]
  exact Z
 ·rw [show ((whU s : Int) == s.length) = false by simp; omega, show (whU s == s.length) = false by simp [h]]
  exact Z
theorem k'1g (s : List UInt8) (hl : s.length < big) : k'0 (cx B) 52 [sT s] [] (.d (.bool (txt s))) [] := by
 have h1 := Bad_calls B s hl
 refine l_bw Tryz.func52 0 [] ?_
 refine l_cw [] (h1) rfl rfl rfl ?_
 cases txt s
 rotate_left
 ·exact k'i rfl
 simp only [Bool.false_eq_true, if_false]
 rw [show decide ((whU s : Int) < 0) = false from decide_eq_false (by omega)]
 exact k'i rfl
end Go.Proofs.YtcfkbpddmdfbaaaGreatDoor
/-! msg.Reader: bytes, texts, a yes, the one of several. -/
namespace Go.Proofs.YtcfkbpddmdfbaaaGreatDoor
open Go Go.Abs
variable (B : Fr)
/-! The one of several that counts. -/
def iD (n : Nat) : D := .int .i64 n
structure OneS where
 num : Nat
 n : Nat
 s : List UInt8
 all : List (List UInt8)
def OneS.d (o : OneS) : D := .agg [.int .i64 o.num, .int .u64 o.n, .str o.s, slD (o.all.map D.str)]
def noOne : OneS := ⟨0, 0, [], []⟩
def oneStep (ns : List Nat) (o : OneS) (x : Fld) : OneS :=
 if ns.contains x.num then (if x.num = o.num then ⟨x.num, x.n, x.s, o.all ++ [x.s]⟩ else ⟨x.num, x.n, x.s, [x.s]⟩) else o
def oneF (ns : List Nat) (l : List Fld) : OneS := l.foldl (oneStep ns) noOne
def OneS.cells (o : OneS) : List T := [iT o.num, uT o.n, sT o.s, owT (o.all.map D.str)]
def numKN (a b : Nat) (o : OneS) : Nat × Nat := if o.num = a then (1, o.n) else if o.num = b then (2, o.n) else (0, 0)
end Go.Proofs.YtcfkbpddmdfbaaaGreatDoor
/-! The tables of values, of attributes, of a message of one list. -/
namespace Go.Proofs.YtcfkbpddmdfbaaaGreatDoor
open Go Go.Abs
variable (B : Fr)
theorem ibeq (k c : Nat) : ((k : Int) == (c : Int)) = (k == c) := by
 by_cases h : k = c
 ·subst h; simp
 ·rw [show (k == c) = false by simpa using h]; simp; omega
def tbV (n k : Nat) : Bool := bif [1, 5, 6, 7].contains n then k == 2 else bif [2, 3].contains n then k == 0 else bif [4].contains n then k == 1 else false
theorem tbV_calls (n k : Nat) : k'0 (cx B) 291 [iT n, iT k] [] (.d (.bool (tbV n k))) [] := by
 refine l_bw Tryz.func291 0 [] ?_
 cases h0 : ((n : Int) == 1) with
 | true =>
  have e : n = 1 := by have := eq_of_beq h0; omega
  subst e
  rw [show tbV 1 k = ((k : Int) == 2) from (ibeq k 2).symm]
  exact Z
 | false =>
 have eh0 : n ≠ 1 := by have := ne_of_beq_false h0; omega
 refine Y ?_
 cases h1 : ((n : Int) == 5) with
 | true =>
  have e : n = 5 := by have := eq_of_beq h1; omega
  subst e
  rw [show tbV 5 k = ((k : Int) == 2) from (ibeq k 2).symm]
  exact Z
 | false =>
 have eh1 : n ≠ 5 := by have := ne_of_beq_false h1; omega
 refine Y ?_
 cases h2 : ((n : Int) == 6) with
 | true =>
  have e : n = 6 := by have := eq_of_beq h2; omega
  subst e
  rw [show tbV 6 k = ((k : Int) == 2) from (ibeq k 2).symm]
  exact Z
 | false =>
 have eh2 : n ≠ 6 := by have := ne_of_beq_false h2; omega
 refine Y ?_
 cases h3 : ((n : Int) == 7) with
 | true =>
  have e : n = 7 := by have := eq_of_beq h3; omega
  subst e
  rw [show tbV 7 k = ((k : Int) == 2) from (ibeq k 2).symm]
  exact Z
 | false =>
 have eh3 : n ≠ 7 := by have := ne_of_beq_false h3; omega
 refine Y ?_
 cases h4 : ((n : Int) == 2) with
 | true =>
  have e : n = 2 := by have := eq_of_beq h4; omega
  subst e
  rw [show tbV 2 k = ((k : Int) == 0) from (ibeq k 0).symm]
  exact Z
 | false =>
 have eh4 : n ≠ 2 := by have := ne_of_beq_false h4; omega
 refine Y ?_
 cases h5 : ((n : Int) == 3) with
 | true =>
  have e : n = 3 := by have := eq_of_beq h5; omega
  subst e
  rw [show tbV 3 k = ((k : Int) == 0) from (ibeq k 0).symm]
  exact Z
 | false =>
 have eh5 : n ≠ 3 := by have := ne_of_beq_false h5; omega
 refine Y ?_
 cases h6 : ((n : Int) == 4) with
 | true =>
  have e : n = 4 := by have := eq_of_beq h6; omega
  subst e
  rw [show tbV 4 k = ((k : Int) == 1) from (ibeq k 1).symm]
  exact Z
 | false =>
 have eh6 : n ≠ 4 := by have := ne_of_beq_false h6; omega
 refine Y ?_
 rw [show tbV n k = false from by unfold tbV; simp [eh0, eh1, eh2, eh3, eh4, eh5, eh6]]
 exact k'i rfl
def tbL (n k : Nat) : Bool := n == 1 && k == 2
def tbK (n k : Nat) : Bool := (n == 1 || n == 2) && k == 2
theorem tbL_calls (n k : Nat) : k'0 (cx B) 329 [iT n, iT k] [] (.d (.bool (tbL n k))) [] := by
 unfold tbL
 refine l_bw Tryz.func329 0 [] ?_
 rw [show ((n : Int) == 1) = (n == 1) from ibeq n 1]
 cases h : (n == 1)
 ·exact Z
 refine Y ?_
 rw [show ((k : Int) == 2) = (k == 2) from ibeq k 2]
 exact k'i rfl
theorem tbK_calls (n k : Nat) : k'0 (cx B) 218 [iT n, iT k] [] (.d (.bool (tbK n k))) [] := by
 unfold tbK
 refine l_bw Tryz.func218 0 [] ?_
 rw [show ((n : Int) == 1) = (n == 1) from ibeq n 1]
 cases h : (n == 1)
 rotate_left
 ·refine Y ?_
  rw [show ((k : Int) == 2) = (k == 2) from ibeq k 2]
  exact k'i rfl
 refine Y ?_
 rw [show ((n : Int) == 2) = (n == 2) from ibeq n 2]
 cases h2 : (n == 2)
 ·exact Z
 refine Y ?_
 rw [show ((k : Int) == 2) = (k == 2) from ibeq k 2]
 exact k'i rfl
