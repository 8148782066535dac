/- Texts: where the signs end; is it one? And more. -/
import Derived.Test.YtnaojdjhjkendaaGreatDoorXG3
set_option linter.unusedSimpArgs false
set_option linter.unusedVariables false
set_option maxRecDepth 100000
/-! Texts: where the signs end; is it one? -/
namespace Go.Proofs.YtnaojdjhjkendaaGreatDoor
open Go Go.Abs
def folB (c : Nat) : Bool := decide (128 ≤ c) && decide (c ≤ 191)
def szU (c : Nat) : Nat := if 244 < c ∨ (128 ≤ c ∧ c < 194) then 0 else if 240 ≤ c then 4 else if 224 ≤ c then 3 else if 194 ≤ c then 2 else 1
def secB (a c : Nat) : Bool :=
 if a = 224 then decide (160 ≤ c) && folB c else if a = 237 then decide (c ≤ 159) && folB c else if a = 240 then decide (144 ≤ c) && folB c else if a = 244 then decide (c ≤ 143) && folB c else folB c
def signN : List UInt8 → Nat
 | [] => 0
 | a :: r => if r.length + 1 < szU a.toNat then 0 else if 1 < szU a.toNat ∧ secB a.toNat ((r.headD 0).toNat) = false then 0 else if ((r.drop 1).take (szU a.toNat - 2)).all (fun c => folB c.toNat) then szU a.toNat else 0
theorem szU_le (c : Nat) : szU c ≤ 4 := by unfold szU; split; omega; split; omega; split; omega; split <;> omega
theorem signN_cons (a : UInt8) (r : List UInt8) : signN (a :: r) = if r.length + 1 < szU a.toNat then 0 else if 1 < szU a.toNat ∧ secB a.toNat ((r.headD 0).toNat) = false then 0 else if ((r.drop 1).take (szU a.toNat - 2)).all (fun c => folB c.toNat) then szU a.toNat else 0 := rfl
theorem signN_le (l : List UInt8) : signN l ≤ l.length ∧ signN l ≤ 4 := by
 cases l with
 | nil => simp [signN]
 | cons a r =>
  have := szU_le a.toNat
  rw [signN_cons]
  by_cases h1 : r.length + 1 < szU a.toNat
  ·rw [if_pos h1]; omega
  rw [if_neg h1]
  by_cases h2 : 1 < szU a.toNat ∧ secB a.toNat ((r.headD 0).toNat) = false
  ·rw [if_pos h2]; omega
  rw [if_neg h2]
  cases ((r.drop 1).take (szU a.toNat - 2)).all (fun c => folB c.toNat) with
  | true => simp only [if_true, List.length_cons]; omega
  | false => simp
def whF : Nat → List UInt8 → Nat → Nat
 | 0, _, a => a
 | f + 1, s, a => if a < s.length then (if signN (s.drop a) = 0 then a else whF f s (a + signN (s.drop a))) else a
def whU (s : List UInt8) : Nat := whF (s.length + 1) s 0
def txt (s : List UInt8) : Bool := whU s == s.length
variable (B : Fr)
theorem k'3w (c : UInt8) : k'5 (cx B) 327 [.d (byteD c)] [] (.d (.bool (folB c.toNat))) [] := by
 unfold folB
 refine l_bw Tryz.func327 0 [] ?_
 by_cases h : 128 ≤ c.toNat
 ·rw [show decide ((c.toNat : Int) ≥ 128) = true from decide_eq_true (by omega), decide_eq_true h]
  refine Z ?_
  rw [show decide ((c.toNat : Int) ≤ 191) = decide (c.toNat ≤ 191) from decide_eq_decide.2 (by omega)]
  exact k'j rfl
 ·rw [show decide ((c.toNat : Int) ≥ 128) = false from decide_eq_false (by omega), decide_eq_false h]
  exact O
theorem size_calls (c : UInt8) : k'5 (cx B) 325 [.d (byteD c)] [] (iT (szU c.toNat)) [] := by
 have hc := k'2n c
 unfold szU
 refine l_bw Tryz.func325 0 [] ?_
 by_cases h1 : 244 < c.toNat
 ·rw [show decide ((c.toNat : Int) > 244) = true from decide_eq_true (by omega), if_pos (.inl h1)]
  exact O
 rw [show decide ((c.toNat : Int) > 244) = false from decide_eq_false (by omega)]
 refine Z ?_
 by_cases h2 : 128 ≤ c.toNat ∧ c.toNat < 194
 ·rw [show decide ((c.toNat : Int) ≥ 128) = true from decide_eq_true (by omega), if_pos (.inr h2)]
  refine Z ?_
  rw [show decide ((c.toNat : Int) < 194) = true from decide_eq_true (by omega)]
  exact O
 rw [if_neg (by omega)]
 have key : (decide ((c.toNat : Int) ≥ 128) = false) ∨ (decide ((c.toNat : Int) ≥ 128) = true ∧ decide ((c.toNat : Int) < 194) = false) := by
  by_cases h : 128 ≤ c.toNat
  ·exact .inr ⟨decide_eq_true (by omega), decide_eq_false (by omega)⟩
  ·exact .inl (decide_eq_false (by omega))
 rcases key with hk | ⟨hk, hk2⟩
 ·rw [hk]
  refine Z ?_
  rw [show decide ((c.toNat : Int) ≥ 240) = false from decide_eq_false (by have := of_decide_eq_false hk; omega)]
  refine Z ?_
  rw [show decide ((c.toNat : Int) ≥ 224) = false from decide_eq_false (by have := of_decide_eq_false hk; omega)]
  refine Z ?_
  rw [show decide ((c.toNat : Int) ≥ 194) = false from decide_eq_false (by have := of_decide_eq_false hk; omega)]
  refine Z ?_
  have := of_decide_eq_false hk
  rw [if_neg (by omega), if_neg (by omega), if_neg (by omega)]
  exact k'j rfl
 ·rw [hk]
  refine Z ?_
  rw [hk2]
  refine Z ?_
  by_cases h3 : 240 ≤ c.toNat
  ·rw [show decide ((c.toNat : Int) ≥ 240) = true from decide_eq_true (by omega), if_pos h3]
   exact O
  rw [show decide ((c.toNat : Int) ≥ 240) = false from decide_eq_false (by omega), if_neg h3]
  refine Z ?_
  by_cases h4 : 224 ≤ c.toNat
  ·rw [show decide ((c.toNat : Int) ≥ 224) = true from decide_eq_true (by omega), if_pos h4]
   exact O
  rw [show decide ((c.toNat : Int) ≥ 224) = false from decide_eq_false (by omega), if_neg h4]
  refine Z ?_
  have := of_decide_eq_false hk2
  rw [show decide ((c.toNat : Int) ≥ 194) = true from decide_eq_true (by omega), if_pos (by omega)]
  exact O
theorem second_calls (a c : UInt8) : k'5 (cx B) 326 [.d (byteD a), .d (byteD c)] [] (.d (.bool (secB a.toNat c.toNat))) [] := by
 have hf := k'3w B c
 unfold secB
 have beq : ∀ k : Nat, ((a.toNat : Int) == (k : Int)) = decide (a.toNat = k) := fun k => by
  by_cases h : a.toNat = k
  ·rw [h]; simp
  ·rw [decide_eq_false h]; simp; omega
 refine l_bw Tryz.func326 0 [] ?_
 by_cases h1 : a.toNat = 224
 ·rw [show ((a.toNat : Int) == 224) = true by rw [h1]; rfl, if_pos h1]
  refine Z ?_
  by_cases h : 160 ≤ c.toNat
  ·rw [show decide ((c.toNat : Int) ≥ 160) = true from decide_eq_true (by omega), decide_eq_true h]
   refine Z ?_
   refine k'2x [] (hf) rfl rfl rfl rfl rfl ?_
   exact O
  ·rw [show decide ((c.toNat : Int) ≥ 160) = false from decide_eq_false (by omega), decide_eq_false h]
   exact O
 rw [show ((a.toNat : Int) == 224) = false by simp; omega, if_neg h1]
 refine Z ?_
 by_cases h2 : a.toNat = 237
 ·rw [show ((a.toNat : Int) == 237) = true by rw [h2]; rfl, if_pos h2]
  refine Z ?_
  by_cases h : c.toNat ≤ 159
  ·rw [show decide ((c.toNat : Int) ≤ 159) = true from decide_eq_true (by omega), decide_eq_true h]
   refine Z ?_
   refine k'2x [] (hf) rfl rfl rfl rfl rfl ?_
   exact O
  ·rw [show decide ((c.toNat : Int) ≤ 159) = false from decide_eq_false (by omega), decide_eq_false h]
   exact O
 rw [show ((a.toNat : Int) == 237) = false by simp; omega, if_neg h2]
 refine Z ?_
 by_cases h3 : a.toNat = 240
 ·rw [show ((a.toNat : Int) == 240) = true by rw [h3]; rfl, if_pos h3]
  refine Z ?_
  by_cases h : 144 ≤ c.toNat
  ·rw [show decide ((c.toNat : Int) ≥ 144) = true from decide_eq_true (by omega), decide_eq_true h]
   refine Z ?_
   refine k'2x [] (hf) rfl rfl rfl rfl rfl ?_
   exact O
  ·rw [show decide ((c.toNat : Int) ≥ 144) = false from decide_eq_false (by omega), decide_eq_false h]
   exact O
 rw [show ((a.toNat : Int) == 240) = false by simp; omega, if_neg h3]
 refine Z ?_
 by_cases h4 : a.toNat = 244
 ·rw [show ((a.toNat : Int) == 244) = true by rw [h4]; rfl, if_pos h4]
  refine Z ?_
  by_cases h : c.toNat ≤ 143
  ·rw [show decide ((c.toNat : Int) ≤ 143) = true from decide_eq_true (by omega), decide_eq_true h]
   refine Z ?_
   refine k'2x [] (hf) rfl rfl rfl rfl rfl ?_
   exact O
  ·rw [show decide ((c.toNat : Int) ≤ 143) = false from decide_eq_false (by omega), decide_eq_false h]
   exact O
 rw [show ((a.toNat : Int) == 244) = false by simp; omega, if_neg h4]
 refine Z ?_
 refine k'8 [] (hf) rfl rfl rfl ?_
 exact O
theorem sign_calls (a : UInt8) (r : List UInt8) (hl : r.length < big) : k'5 (cx B) 302 [sT (a :: r)] [] (iT (signN (a :: r))) [] := by
 have h4 := szU_le a.toNat
 have h1 := size_calls B a
 unfold big at hl
 have hlen : ((a :: r).length : Int) = r.length + 1 := by simp
 rw [signN_cons]
 generalize szU a.toNat = n at *
 refine l_bw Tryz.func302 0 [] ?_
 refine k'3 (.index (k := .i64) (n := 0) (s := a :: r) (c := a) rfl rfl rfl rfl rfl (by omega) rfl) rfl rfl ?_
 refine l_cw [] (h1) rfl rfl rfl ?_
 refine xw ?_
 rw [hlen]
 by_cases c1 : r.length + 1 < n
 ·rw [show decide ((n : Int) > (r.length : Int) + 1) = true from decide_eq_true (by omega), if_pos c1]
  exact O
 rw [show decide ((n : Int) > (r.length : Int) + 1) = false from decide_eq_false (by omega), if_neg c1]
 refine xw ?_
 by_cases c2 : 1 < n
 ·rw [show decide ((n : Int) > 1) = true from decide_eq_true (by omega)]
  obtain ⟨b, q, hr⟩ : ∃ b q, r = b :: q := by
   cases r with
   | nil => simp at c1; omega
   | cons b q => exact ⟨b, q, rfl⟩
  have h2 := second_calls B a b
  have hr0 : (a :: r)[1]? = some b := by rw [hr]; rfl
  have hb : r.headD 0 = b := by rw [hr]; rfl
  clear hr
  rw [hb]
  refine xw ?_
  refine k'35 (.index (k := .i64) (n := 0) (s := a :: r) (c := a) rfl rfl rfl rfl rfl (by omega) rfl) rfl rfl rfl ?_
  refine xw ?_
  refine k'35 (.index (k := .i64) (n := 1) (s := a :: r) (c := b) rfl rfl rfl rfl rfl (by omega) hr0) rfl rfl rfl ?_
  refine x_callq [] (h2) rfl rfl rfl ?_
  cases hsc : secB a.toNat b.toNat with
  | false =>
   rw [if_pos ⟨c2, rfl⟩]
   exact O
  | true =>
  rw [if_neg (by simp)]
  refine Z ?_
  refine k'y (fun i : Nat => n - i) (fun i => [(0, sT (a :: r)), (3, iT n), (4, iT i)]) (fun _ => []) (fun i => 2 ≤ i ∧ (i ≤ n ∨ i = 2) ∧ ((r.drop 1).take (i - 2)).all (fun c => folB c.toNat) = true) 2 ⟨by omega, .inr rfl, by simp⟩ ⟨rfl, rfl, rfl, trivial⟩ rfl 0 rfl (fun _ => rfl) (fun _ => rfl) (fun _ => rfl) ?_
  rintro i ⟨i1, i2, i3⟩
  refine Z ?_
  by_cases hlt : i < n
  ·rw [show decide ((i : Int) < n) = true from decide_eq_true (by omega)]
   obtain ⟨c, hci⟩ : ∃ c, (a :: r)[i]? = some c := ⟨_, List.getElem?_eq_getElem (by simp; omega)⟩
   have hdi : (r.drop 1)[i - 2]? = some c := by
    rw [List.getElem?_drop]
    rw [show i = (1 + (i - 2)) + 1 by omega, List.getElem?_cons_succ] at hci
    exact hci
   have htk : (r.drop 1).take (i + 1 - 2) = (r.drop 1).take (i - 2) ++ [c] := by
    rw [show i + 1 - 2 = (i - 2) + 1 by omega, List.take_add_one, hdi]; rfl
   have hf := k'3w B c
   refine Z ?_
   refine k'3 (.index (k := .i64) (n := i) (s := a :: r) (c := c) rfl rfl rfl rfl rfl (by omega) (by rw [Int.toNat_natCast]; exact hci)) rfl rfl ?_
   refine l_cw [] (hf) rfl rfl rfl ?_
   cases hfc : folB c.toNat
   ·have : ((r.drop 1).take (n - 2)).all (fun c => folB c.toNat) = false := by
     cases hh : ((r.drop 1).take (n - 2)).all (fun c => folB c.toNat) with
     | false => rfl
     | true =>
      have := List.all_eq_true.1 hh c (List.mem_of_getElem? (i := i - 2) (by rw [List.getElem?_take_of_lt (by omega)]; exact hdi))
      rw [hfc] at this; simp at this
    rw [this]
    exact O
   refine Z ?_
   rw [wS i (by omega)]
   exact ⟨i + 1, by omega, ⟨by omega, .inl (by omega), by rw [htk, List.all_append, i3]; simp [hfc]⟩, ⟨rfl, rfl, rfl, trivial⟩, rfl, k'g rfl⟩
  ·rw [show decide ((i : Int) < n) = false from decide_eq_false (by omega)]
   have : ((r.drop 1).take (n - 2)).all (fun c => folB c.toNat) = true := by
    rcases i2 with h | h
    ·rw [show n = i by omega]; exact i3
    ·rw [show n - 2 = 0 by omega]; simp
   rw [this]
   exact O
 ·rw [show decide ((n : Int) > 1) = false from decide_eq_false (by omega), if_neg (fun h => c2 h.1)]
  refine Z ?_
  refine k'y (fun i : Nat => n - i) (fun i => [(0, sT (a :: r)), (3, iT n), (4, iT i)]) (fun _ => []) (fun i => 2 ≤ i ∧ (i ≤ n ∨ i = 2) ∧ ((r.drop 1).take (i - 2)).all (fun c => folB c.toNat) = true) 2 ⟨by omega, .inr rfl, by simp⟩ ⟨rfl, rfl, rfl, trivial⟩ rfl 0 rfl (fun _ => rfl) (fun _ => rfl) (fun _ => rfl) ?_
  rintro i ⟨i1, i2, i3⟩
  refine Z ?_
  by_cases hlt : i < n
  ·rw [show decide ((i : Int) < n) = true from decide_eq_true (by omega)]
   obtain ⟨c, hci⟩ : ∃ c, (a :: r)[i]? = some c := ⟨_, List.getElem?_eq_getElem (by simp; omega)⟩
   have hdi : (r.drop 1)[i - 2]? = some c := by
    rw [List.getElem?_drop]
    rw [show i = (1 + (i - 2)) + 1 by omega, List.getElem?_cons_succ] at hci
    exact hci
   have htk : (r.drop 1).take (i + 1 - 2) = (r.drop 1).take (i - 2) ++ [c] := by
    rw [show i + 1 - 2 = (i - 2) + 1 by omega, List.take_add_one, hdi]; rfl
   have hf := k'3w B c
   refine Z ?_
   refine k'3 (.index (k := .i64) (n := i) (s := a :: r) (c := c) rfl rfl rfl rfl rfl (by omega) (by rw [Int.toNat_natCast]; exact hci)) rfl rfl ?_
   refine l_cw [] (hf) rfl rfl rfl ?_
   cases hfc : folB c.toNat
   ·have : ((r.drop 1).take (n - 2)).all (fun c => folB c.toNat) = false := by
     cases hh : ((r.drop 1).take (n - 2)).all (fun c => folB c.toNat) with
     | false => rfl
     | true =>
      have := List.all_eq_true.1 hh c (List.mem_of_getElem? (i := i - 2) (by rw [List.getElem?_take_of_lt (by omega)]; exact hdi))
      rw [hfc] at this; simp at this
    rw [this]
    exact O
   refine Z ?_
   rw [wS i (by omega)]
   exact ⟨i + 1, by omega, ⟨by omega, .inl (by omega), by rw [htk, List.all_append, i3]; simp [hfc]⟩, ⟨rfl, rfl, rfl, trivial⟩, rfl, k'g rfl⟩
  ·rw [show decide ((i : Int) < n) = false from decide_eq_false (by omega)]
   have : ((r.drop 1).take (n - 2)).all (fun c => folB c.toNat) = true := by
    rcases i2 with h | h
    ·rw [show n = i by omega]; exact i3
    ·rw [show n - 2 = 0 by omega]; simp
   rw [this]
   exact O
theorem whole_calls (s : List UInt8) (hl : s.length < big) : k'5 (cx B) 238 [sT s, iT s.length] [] (iT (whU s)) [] := by
 have hl' := hl
 unfold big at hl'
 refine l_bw Tryz.func238 0 [] ?_
 refine k'y (fun x : Nat × Nat => x.2) (fun x => [(0, sT s), (1, iT s.length), (5, iT x.1)]) (fun _ => []) (fun x => x.1 ≤ s.length ∧ s.length - x.1 < x.2 ∧ whU s = whF x.2 s x.1) (0, s.length + 1) ⟨by omega, by show s.length - 0 < s.length + 1; omega, rfl⟩ ⟨rfl, rfl, rfl, trivial⟩ rfl 0 rfl (fun _ => rfl) (fun _ => rfl) (fun _ => rfl) ?_
 rintro ⟨p, f⟩ ⟨i1, i2, i3⟩
 dsimp only at i1 i2 i3 ⊢
 cases f with
 | zero => omega
 | succ f =>
 unfold whF at i3
 refine Z ?_
 by_cases hp : p < s.length
 ·rw [show decide ((p : Int) < s.length) = true from decide_eq_true (by omega)]
  rw [if_pos hp] at i3
  obtain ⟨c, hci⟩ : ∃ c, s[p]? = some c := ⟨_, List.getElem?_eq_getElem hp⟩
  have hdr : s.drop p = c :: s.drop (p + 1) := by
   rw [List.drop_eq_getElem_cons hp]; rw [List.getElem?_eq_getElem hp] at hci; injection hci with hci; rw [hci]
  have h1 := sign_calls B c (s.drop (p + 1)) (by simp; omega)
  have hle := (signN_le (s.drop p)).1
  rw [← hdr] at h1
  simp only [List.length_drop] at hle
  generalize signN (s.drop p) = n at *
  refine Z ?_
  refine k'3 (.sliceStr (s := s) (l := p) (h := s.length) rfl rfl rfl rfl ⟨.i64, rfl⟩ rfl (by omega) (Nat.le_refl _)) rfl rfl ?_
  rw [drop_take_all]
  refine l_cw [] (h1) rfl rfl rfl ?_
  by_cases h0 : n = 0
  ·rw [show ((n : Int) == 0) = true by rw [h0]; rfl]
   rw [if_pos h0] at i3
   refine Z ?_
   rw [i3]
   exact k'j rfl
  ·rw [show ((n : Int) == 0) = false by simp; omega]
   rw [if_neg h0] at i3
   refine Z ?_
   rw [show IntKind.i64.wrap ((s.length : Int) - p) = (s.length : Int) - p from k'1b (by omega) (by omega), show decide ((n : Int) > (s.length : Int) - p) = false from decide_eq_false (by omega)]
   refine Z ?_
   rw [show IntKind.i64.wrap ((p : Int) + n) = ((p + n : Nat) : Int) by rw [k'1b (by omega) (by omega)]; omega]
   exact ⟨(p + n, f), Nat.lt_succ_self f, ⟨by show p + n ≤ _; omega, by show s.length - (p + n) < f; omega, i3⟩, ⟨rfl, rfl, rfl, trivial⟩, rfl, k'g rfl⟩
 ·rw [show decide ((p : Int) < s.length) = false from decide_eq_false (by omega)]
  rw [if_neg hp] at i3
  rw [i3]
  exact O
theorem Bad_calls (s : List UInt8) (hl : s.length < big) : k'5 (cx B) 145 [sT s] [] (.d (.int .i64 (if txt s then -1 else whU s))) [] := by
 have h1 := whole_calls B s hl
 unfold txt
 refine l_bw Tryz.func145 0 [] ?_
 refine l_cw [] (h1) rfl rfl rfl ?_
 by_cases h : whU s = s.length
 ·rw [show ((whU s : Int) == s.length) = true by rw [h]; simp, show (whU s == s.length) = true by simp [h]]
  exact O
 ·rw [show ((whU s : Int) == s.length) = false by simp; omega, show (whU s == s.length) = false by simp [h]]
  exact O
theorem utfCheck_calls (s : List UInt8) (hl : s.length < big) : k'5 (cx B) 184 [sT s] [] (.d (eD (if txt s then none else some (.loc (whU s) (.code 5))))) [] := by
 have h1 := Bad_calls B s hl
 refine l_bw Tryz.func184 0 [] ?_
 refine l_cw [] (h1) rfl rfl rfl ?_
 cases txt s
 rotate_left
 ·exact O
 simp only [Bool.false_eq_true, if_false]
 rw [show decide ((whU s : Int) ≥ 0) = true from decide_eq_true (by omega)]
 refine Z ?_
 refine k'8 [] (At_calls B (whU s) (some (.code 5))) rfl rfl rfl ?_
 exact O
end Go.Proofs.YtnaojdjhjkendaaGreatDoor
/-! msg.Reader: bytes, texts, a yes, the one of several. -/
namespace Go.Proofs.YtnaojdjhjkendaaGreatDoor
open Go Go.Abs
variable (B : Fr)
theorem rBytes0_calls (e : Option Er) (u : List UInt8) (d n : Int) (l : List Fld) (num : Nat) (hl : l.length ≤ most) : k'5 (cx B) 258 [.ptr 0 0, iT num] [rO e u d n l] (sT (k'a l num).s) [rO e u d n l] := by
 refine l_bw Tryz.func258 1 [] ?_
 refine k'8 [0] (k'3v B e u d n l num hl) rfl rfl rfl ?_
 exact O
def chkE (s : List UInt8) : Option Er := if txt s then none else some (.loc (whU s) (.code 5))
def chkF (n : Int) (num : Nat) (l : List Fld) (e : Option Er) : Option Er := l.foldl (fun e x => if x.num = num then k'4c n num e (chkE x.s) else e) e
theorem chkF_snoc (n : Int) (num : Nat) (l : List Fld) (x : Fld) (e : Option Er) : chkF n num (l ++ [x]) e = if x.num = num then k'4c n num (chkF n num l e) (chkE x.s) else chkF n num l e := by
 unfold chkF; rw [List.foldl_append]; rfl
theorem rCheck_calls (hB : BOk B) (e : Option Er) (u : List UInt8) (d n : Int) (l : List Fld) (num : Nat) (hl : LOk l) : k'5 (cx B) 91 [.ptr 0 0, iT num] [rO e u d n l] (.tup []) [rO (chkF n num l e) u d n l] := by
 have hlen : (l.map Fld.d).length = l.length := by simp
 have hlb := hl.lenb
 unfold big at hlb
 refine l_bw Tryz.func91 1 [] ?_
 rw [hlen]
 refine k'y (fun i : Nat => l.length - i) (fun i => [(0, .ptr 0 0), (1, iT num), (9, .d (slD (l.map Fld.d))), (10, iT l.length), (11, iT i)])
  (fun i => [rO (chkF n num (l.take i) e) u d n l]) (fun i => i ≤ l.length) 0 (by omega) ⟨rfl, rfl, rfl, rfl, rfl, trivial⟩ rfl 1 rfl (fun _ => rfl) (fun _ => rfl) (fun _ => rfl) ?_
 intro i i1
 refine Z ?_
 refine k'1q rfl (fun hc => ?_) (fun hc => ?_)
 ·have hlt : i < l.length := by have := of_decide_eq_true hc; omega
  obtain ⟨x, hx⟩ : ∃ x, l[i]? = some x := ⟨_, List.getElem?_eq_getElem hlt⟩
  have hdx : (l.map Fld.d)[i]? = some x.d := by rw [List.getElem?_map, hx]; rfl
  have htk : l.take (i + 1) = l.take i ++ [x] := by rw [List.take_add_one, hx]; rfl
  have hst := chkF_snoc n num (l.take i) x e
  rw [← htk] at hst
  obtain ⟨hfx, hwx⟩ := k'1x hl hx
  have hxs : x.s.length < big := by have := hfx.s; have := hl.2; omega
  have hwi : IntKind.i64.wrap ((i : Int) + 1) = ((i + 1 : Nat) : Int) := by rw [k'1b (by omega) (by omega)]; omega
  refine Z ?_
  refine k'3 (.indexAddr (k := .i64) (n := i) (es := l.map Fld.d) (u := x.d) rfl rfl rfl rfl (.inl ⟨_, rfl⟩) rfl (by omega) (by simpa using hdx) rfl (by decide)) rfl rfl ?_
  refine Z ?_
  by_cases hn : x.num = num
  ·rw [show ((x.num : Int) == num) = true by rw [hn]; simp]
   rw [if_pos hn] at hst
   have h1 := utfCheck_calls B x.s hxs
   have h2 := k'1v B hB (chkF n num (l.take i) e) u d n l num (chkE x.s)
   unfold chkE at h1
   refine Z ?_
   refine k'8 [] (h1) rfl rfl rfl ?_
   refine l_cw [0] (h2) rfl rfl rfl ?_
   rw [hwi]
   exact ⟨i + 1, by omega, by omega, ⟨rfl, rfl, rfl, rfl, rfl, trivial⟩, rfl, k'g (by rw [hst]; rfl)⟩
  ·rw [show ((x.num : Int) == num) = false by simp; omega]
   rw [if_neg hn] at hst
   refine Z ?_
   rw [hwi]
   exact ⟨i + 1, by omega, by omega, ⟨rfl, rfl, rfl, rfl, rfl, trivial⟩, rfl, k'g (by rw [hst]; rfl)⟩
 ·have hge : i = l.length := by have := of_decide_eq_false hc; omega
  subst hge
  rw [List.take_length]
  exact O
theorem rText_calls (hB : BOk B) (e : Option Er) (u : List UInt8) (d n : Int) (l : List Fld) (num : Nat) (hl : LOk l) : k'5 (cx B) 25 [.ptr 0 0, iT num] [rO e u d n l] (sT (k'a l num).s) [rO (chkF n num l e) u d n l] := by
 have h1 := rCheck_calls B hB e u d n l num hl
 have h2 := k'3v B (chkF n num l e) u d n l num (k'2w hl)
 generalize chkF n num l e = e' at *
 refine l_bw Tryz.func25 1 [] ?_
 refine l_cw [0] (h1) rfl rfl rfl ?_
 refine k'8 [0] (h2) rfl rfl rfl ?_
 exact O
/-! The one of several that counts. -/
def iD (n : Nat) : D := .int .i64 n
structure OneS where
 num : Nat
 n : Nat
 s : List UInt8
 all : List (List UInt8)
def OneS.d (o : OneS) : D := .agg [.int .i64 o.num, .int .u64 o.n, .str o.s, slD (o.all.map D.str)]
def noOne : OneS := ⟨0, 0, [], []⟩
def k'm (ns : List Nat) (o : OneS) (x : Fld) : OneS :=
 if ns.contains x.num then (if x.num = o.num then ⟨x.num, x.n, x.s, o.all ++ [x.s]⟩ else ⟨x.num, x.n, x.s, [x.s]⟩) else o
def oneF (ns : List Nat) (l : List Fld) : OneS := l.foldl (k'm ns) noOne
theorem oneF_snoc (ns : List Nat) (l : List Fld) (x : Fld) : oneF ns (l ++ [x]) = k'm ns (oneF ns l) x := by unfold oneF; rw [List.foldl_append]; rfl
theorem oneF_len (ns : List Nat) (l : List Fld) : (oneF ns l).all.length ≤ l.length := by
 have key : ∀ (l : List Fld) (o : OneS), (l.foldl (k'm ns) o).all.length ≤ o.all.length + l.length := by
  intro l
  induction l with
  | nil => intro o; simp
  | cons x l ih =>
   intro o
   have h2 := ih (k'm ns o x)
   have h3 : (k'm ns o x).all.length ≤ o.all.length + 1 := by unfold k'm; split; split <;> simp; omega
   simp at *; omega
 have := key l noOne
 simpa [oneF, noOne] using this
theorem Index_calls (z : Bool) (ns : List Nat) (x : Nat) (hl : ns.length < 1000) : k'5 (cx B) 163 [.d (.sl z (ns.map iD)), iT x] [] (.d (.int .i64 (match ns.findIdx? (· == x) with | some i => i | none => -1))) [] := by
 have hlen : (ns.map iD).length = ns.length := by simp
 refine l_bw Tryz.func163 0 [] ?_
 rw [hlen]
 refine k'y (fun i : Nat => ns.length - i) (fun i => [(0, .d (.sl z (ns.map iD))), (1, iT x), (7, iT ns.length), (8, iT i)]) (fun _ => []) (fun i => i ≤ ns.length ∧ ns.findIdx? (· == x) = ((ns.drop i).findIdx? (· == x)).map (· + i)) 0 ⟨by omega, by simp⟩ ⟨rfl, rfl, rfl, rfl, trivial⟩ rfl 0 rfl (fun _ => rfl) (fun _ => rfl) (fun _ => rfl) ?_
 rintro i ⟨i1, i2⟩
 refine Z ?_
 refine k'1q rfl (fun hd => ?_) (fun hd => ?_)
 ·have hlt : i < ns.length := by have := of_decide_eq_true hd; omega
  obtain ⟨y, hy⟩ : ∃ y, ns[i]? = some y := ⟨_, List.getElem?_eq_getElem hlt⟩
  have hdy : (ns.map iD)[i]? = some (iD y) := by rw [List.getElem?_map, hy]; rfl
  have hdr : ns.drop i = y :: ns.drop (i + 1) := by
   rw [List.drop_eq_getElem_cons hlt]; rw [List.getElem?_eq_getElem hlt] at hy; injection hy with hy; rw [hy]
  rw [hdr, List.findIdx?_cons] at i2
  refine Z ?_
  refine k'3 (.indexAddr (k := .i64) (n := i) (es := ns.map iD) (u := iD y) rfl rfl rfl rfl (.inl ⟨_, rfl⟩) rfl (by omega) (by simpa using hdy) rfl (by decide)) rfl rfl ?_
  refine Z ?_
  by_cases he : x = y
  ·subst he
   rw [show ((x : Int) == x) = true by simp]
   refine Z ?_
   rw [i2]
   simp only [beq_self_eq_true, cond_true, if_true, Option.map_some, Nat.zero_add]
   exact k'j rfl
  ·rw [show ((x : Int) == y) = false by simp; omega]
   refine Z ?_
   rw [wS i (by omega)]
   refine ⟨i + 1, by omega, ⟨by omega, ?_⟩, ⟨rfl, rfl, rfl, rfl, trivial⟩, rfl, k'g rfl⟩
   rw [i2, show (y == x) = false by simp; omega]
   simp only [Bool.false_eq_true, if_false, Option.map_map]
   congr 1
   funext k; simp; omega
 ·have hge : i = ns.length := by have := of_decide_eq_false hd; omega
  subst hge
  rw [List.drop_length] at i2
  rw [i2]
  exact O
theorem Contains_calls (z : Bool) (ns : List Nat) (x : Nat) (hl : ns.length < 1000) : k'5 (cx B) 76 [.d (.sl z (ns.map iD)), iT x] [] (.d (.bool (ns.contains x))) [] := by
 have h1 := Index_calls B z ns x hl
 have hc : decide ((match ns.findIdx? (· == x) with | some i => (i : Int) | none => -1) ≥ 0) = ns.contains x := by
  cases h : ns.findIdx? (· == x) with
  | none =>
   have : ns.contains x = false := by
    rw [List.findIdx?_eq_none_iff] at h
    cases hc : ns.contains x with
    | false => rfl
    | true => have := h x (by simpa using hc); simp at this
   rw [this]; rfl
  | some i =>
   have : ns.contains x = true := by
    have h2 := List.findIdx?_isSome (xs := ns) (p := (· == x))
    rw [h] at h2
    simp at h2
    simpa using h2
   rw [this]
   exact decide_eq_true (by show (i : Int) ≥ 0; omega)
 generalize (match ns.findIdx? (· == x) with | some i => (i : Int) | none => -1) = k at *
 refine l_bw Tryz.func76 0 [] ?_
 refine l_cw [] (h1) rfl rfl rfl ?_
 rw [hc]
 exact k'j rfl
def OneS.cells (o : OneS) : List T := [iT o.num, uT o.n, sT o.s, owT (o.all.map D.str)]
theorem str_fits (l : List (List UInt8)) : ∀ a ∈ l.map D.str, a.fits 1 = true := by
 intro a ha
 obtain ⟨c, -, rfl⟩ := List.mem_map.1 ha
 rfl
theorem _root_.Go.Abs.StepE.append0 {X : Ctx} {o : Oper} {v : Operand → T} {H : List Ob} {c : Call} {t e : TypeId} {i j : Ti} {x : Tmp} {y : Operand} {xs : List D} (ho : o.op = .call c) (hcb : c.callee = .builtin .append) (hca : c.args = #[.tmp x, y]) (h0 : c.argTypes[0]? = some t) (hex : ∃ u k, c.argTypes[1]? = some u ∧ X.tab u = some k ∧ ∀ q, k.ty ≠ .int q)
  (hi : X.tab t = some i) (hty : i.ty = .sl e) (hj : X.tab e = some j) (hg : v (.tmp x) = .d (.sl true [])) (hy : (v y).elems = some xs) (hf : ∀ a ∈ xs, a.fits j.size = true) (hsz : j.size ≠ 0) (hby : Nat.ble j.bytes 1024 = true)
  (hmost : xs.length ≤ most) (hdst0 : o.dst.isSome = true) : StepE X o v H ⟨owT xs, some x, H⟩ := by
 obtain ⟨u, k, h1, h2, h3⟩ := hex
 have hni : ∀ u k, c.argTypes[1]? = some u → X.tab u = some k → ∀ q, k.ty ≠ .int q := fun u' k' e1 e2 => by
  rw [h1] at e1; injection e1 with e1; subst e1
  rw [h2] at e2; injection e2 with e2; subst e2; exact h3
 have := StepE.append (H := H) (es := []) ho hcb hca h0 hni ⟨u, k, h1, h2⟩ hi hty hj (by rw [hg]; rfl) hy (by simpa using hf) hsz (Nat.le_of_ble_eq_true hby) (by simpa using hmost) hdst0
 unfold owT
 rw [List.nil_append] at this
 cases xs with
 | nil => exact this
 | cons a r => exact this
theorem rOne_calls (e : Option Er) (u : List UInt8) (d n : Int) (l : List Fld) (z : Bool) (ns : List Nat) (hn : ns.length < 1000) (hl : LOk l) : k'5 (cx B) 20 [.ptr 0 0, .d (.sl z (ns.map iD))] [rO e u d n l] (.d (oneF ns l).d) [rO e u d n l] := by
 have hlen : (l.map Fld.d).length = l.length := by simp
 have hlb := hl.lenb
 unfold big at hlb
 refine l_bw Tryz.func20 1 [] ?_
 rw [hlen]
 refine k'y (fun i : Nat => l.length - i) (fun i => [(0, .ptr 0 0), (1, .d (.sl z (ns.map iD))), (4, .ptr 1 0), (5, .ptr 2 0), (11, .d (slD (l.map Fld.d))), (12, iT l.length), (13, iT i)])
  (fun i => [rO e u d n l, .mu noOne.cells, .mu (oneF ns (l.take i)).cells]) (fun i => i ≤ l.length) 0 (by omega) ⟨rfl, rfl, rfl, rfl, rfl, rfl, rfl, trivial⟩ rfl 3 rfl (fun _ => rfl) (fun _ => rfl) (fun _ => rfl) ?_
 intro i i1
 refine Z ?_
 refine k'1q rfl (fun hc => ?_) (fun hc => ?_)
 ·have hlt : i < l.length := by have := of_decide_eq_true hc; omega
  obtain ⟨x, hx⟩ : ∃ x, l[i]? = some x := ⟨_, List.getElem?_eq_getElem hlt⟩
  have hdx : (l.map Fld.d)[i]? = some x.d := by rw [List.getElem?_map, hx]; rfl
  have htk : l.take (i + 1) = l.take i ++ [x] := by rw [List.take_add_one, hx]; rfl
  have hst : oneF ns (l.take (i + 1)) = k'm ns (oneF ns (l.take i)) x := by rw [htk]; exact oneF_snoc ..
  have hol := oneF_len ns (l.take i)
  have hwi : IntKind.i64.wrap ((i : Int) + 1) = ((i + 1 : Nat) : Int) := by rw [k'1b (by omega) (by omega)]; omega
  have h1 := Contains_calls B z ns x.num hn
  generalize oneF ns (l.take i) = o at *
  simp only [List.length_take] at hol
  refine Z ?_
  refine k'3 (.indexAddr (k := .i64) (n := i) (es := l.map Fld.d) (u := x.d) rfl rfl rfl rfl (.inl ⟨_, rfl⟩) rfl (by omega) (by simpa using hdx) rfl (by decide)) rfl rfl ?_
  refine Z ?_
  refine l_cw [] (h1) rfl rfl rfl ?_
  cases hcn : ns.contains x.num
  ·unfold k'm at hst
   rw [hcn, if_neg (by simp)] at hst
   refine Z ?_
   rw [hwi]
   exact ⟨i + 1, by omega, by omega, ⟨rfl, rfl, rfl, rfl, rfl, rfl, rfl, trivial⟩, rfl, k'g (by rw [hst]; rfl)⟩
  unfold k'm at hst
  rw [hcn, if_pos rfl] at hst
  refine Z ?_
  by_cases he : x.num = o.num
  ·rw [show ((x.num : Int) != (o.num : Int)) = false by rw [he]; simp]
   rw [if_pos he] at hst
   refine adm ?_
   refine x_open rfl rfl ?_
   refine x_go rfl ?_
   refine x_nil rfl ?_
   refine adm ?_
   (try refine k'h rfl ?_)
   refine k'd (fst := false) 1 rfl rfl rfl ?_
   refine k'3 (.loadMov (q := owT (o.all.map D.str)) rfl rfl rfl rfl rfl rfl rfl) rfl rfl ?_
   refine Z ?_
   refine k'3 (.buildSlice (es := [D.str x.s]) rfl rfl rfl rfl rfl rfl (by intro x hx; simp at hx; subst hx; rfl) (by simp) (by decide) (by decide)) rfl rfl ?_
   have hm : (o.all.map D.str).length + [D.str x.s].length ≤ most := by simp [most]; omega
   refine k'3 (.append' rfl rfl rfl rfl ⟨_, _, rfl, rfl, by intro q; simp⟩ rfl rfl rfl rfl rfl (by rw [show [D.str x.s] = [x.s].map D.str from rfl, ← List.map_append]; exact str_fits _) (by decide) rfl hm rfl) rfl rfl ?_
   refine k'd (fst := false) 1 rfl rfl rfl ?_
   refine k'3 (.storeMov rfl rfl rfl rfl rfl rfl rfl (Nat.le_of_ble_eq_true rfl) rfl) rfl rfl ?_
   refine Z ?_
   rw [hwi]
   exact ⟨i + 1, by omega, by omega, ⟨rfl, rfl, rfl, rfl, rfl, rfl, rfl, trivial⟩, rfl, k'g (by rw [hst]; show [_, _, Ob.mu [_, _, _, owT _]] = [_, _, Ob.mu [_, _, _, owT _]]; rw [List.map_append, he]; rfl)⟩
  ·rw [show ((x.num : Int) != (o.num : Int)) = true by simp; omega]
   rw [if_neg he] at hst
   refine Z ?_
   refine k'3 (.buildSlice (es := [D.str x.s]) rfl rfl rfl rfl rfl rfl (by intro x hx; simp at hx; subst hx; rfl) (by simp) (by decide) (by decide)) rfl rfl ?_
   refine k'3 (.append0 rfl rfl rfl rfl ⟨_, _, rfl, rfl, by intro q; simp⟩ rfl rfl rfl rfl rfl (by exact str_fits [x.s]) (by decide) rfl (by simp [most]) rfl) rfl rfl ?_
   refine k'd (fst := false) 1 rfl rfl rfl ?_
   refine k'3 (.storeMov rfl rfl rfl rfl rfl rfl rfl (Nat.le_of_ble_eq_true rfl) rfl) rfl rfl ?_
   refine Z ?_
   rw [hwi]
   exact ⟨i + 1, by omega, by omega, ⟨rfl, rfl, rfl, rfl, rfl, rfl, rfl, trivial⟩, rfl, k'g (by rw [hst]; rfl)⟩
 ·have hge : i = l.length := by have := of_decide_eq_false hc; omega
  subst hge
  rw [List.take_length]
  exact O
def k'32 (a b : Nat) (o : OneS) : Nat × Nat := if o.num = a then (1, o.n) else if o.num = b then (2, o.n) else (0, 0)
theorem rNumber_calls (e : Option Er) (u : List UInt8) (d n : Int) (l : List Fld) (a b : Nat) (hl : LOk l) :
  k'5 (cx B) 170 [.ptr 0 0, iT a, iT b] [rO e u d n l] (.tup [iT (k'32 a b (oneF [a, b] l)).1, uT (k'32 a b (oneF [a, b] l)).2]) [rO e u d n l] := by
 have h1 := rOne_calls B e u d n l false [a, b] (by simp) hl
 unfold k'32
 generalize oneF [a, b] l = o at *
 refine l_bw Tryz.func170 1 [] ?_
 refine k'3 (.buildSlice (es := [iD a, iD b]) rfl rfl rfl rfl rfl rfl (by intro x hx; simp at hx; rcases hx with rfl | rfl <;> rfl) (by simp) (by decide) (by decide)) rfl rfl ?_
 refine Z ?_
 refine l_cw [0] (h1) rfl rfl rfl ?_
 by_cases ha : o.num = a
 ·rw [show ((o.num : Int) == (a : Int)) = true by rw [ha]; simp, if_pos ha]
  exact O
 rw [show ((o.num : Int) == (a : Int)) = false by simp; omega, if_neg ha]
 refine Z ?_
 by_cases hb : o.num = b
 ·rw [show ((o.num : Int) == (b : Int)) = true by rw [hb]; simp, if_pos hb]
  exact O
 rw [show ((o.num : Int) == (b : Int)) = false by simp; omega, if_neg hb]
 exact O
end Go.Proofs.YtnaojdjhjkendaaGreatDoor
/-! The tables of values, of attributes, of a message of one list. -/
namespace Go.Proofs.YtnaojdjhjkendaaGreatDoor
open Go Go.Abs
variable (B : Fr)
theorem ibeq (k c : Nat) : ((k : Int) == (c : Int)) = (k == c) := by
 by_cases h : k = c
 ·subst h; simp
 ·rw [show (k == c) = false by simpa using h]; simp; omega
def tbV (n k : Nat) : Bool := bif [1, 5, 6, 7].contains n then k == 2 else bif [2, 3].contains n then k == 0 else bif [4].contains n then k == 1 else false
theorem tbV_calls (n k : Nat) : k'5 (cx B) 186 [iT n, iT k] [] (.d (.bool (tbV n k))) [] := by
 refine l_bw Tryz.func186 0 [] ?_
 cases h0 : ((n : Int) == 1) with
 | true =>
  have e : n = 1 := by have := eq_of_beq h0; omega
  subst e
  rw [show tbV 1 k = ((k : Int) == 2) from (ibeq k 2).symm]
  exact O
 | false =>
 have eh0 : n ≠ 1 := by have := ne_of_beq_false h0; omega
 refine Z ?_
 cases h1 : ((n : Int) == 5) with
 | true =>
  have e : n = 5 := by have := eq_of_beq h1; omega
  subst e
  rw [show tbV 5 k = ((k : Int) == 2) from (ibeq k 2).symm]
  exact O
 | false =>
 have eh1 : n ≠ 5 := by have := ne_of_beq_false h1; omega
 refine Z ?_
 cases h2 : ((n : Int) == 6) with
 | true =>
  have e : n = 6 := by have := eq_of_beq h2; omega
  subst e
  rw [show tbV 6 k = ((k : Int) == 2) from (ibeq k 2).symm]
  exact O
 | false =>
 have eh2 : n ≠ 6 := by have := ne_of_beq_false h2; omega
 refine Z ?_
 cases h3 : ((n : Int) == 7) with
 | true =>
  have e : n = 7 := by have := eq_of_beq h3; omega
  subst e
  rw [show tbV 7 k = ((k : Int) == 2) from (ibeq k 2).symm]
  exact O
 | false =>
 have eh3 : n ≠ 7 := by have := ne_of_beq_false h3; omega
 refine Z ?_
 cases h4 : ((n : Int) == 2) with
 | true =>
  have e : n = 2 := by have := eq_of_beq h4; omega
  subst e
  rw [show tbV 2 k = ((k : Int) == 0) from (ibeq k 0).symm]
  exact O
 | false =>
 have eh4 : n ≠ 2 := by have := ne_of_beq_false h4; omega
 refine Z ?_
 cases h5 : ((n : Int) == 3) with
 | true =>
  have e : n = 3 := by have := eq_of_beq h5; omega
  subst e
  rw [show tbV 3 k = ((k : Int) == 0) from (ibeq k 0).symm]
  exact O
 | false =>
 have eh5 : n ≠ 3 := by have := ne_of_beq_false h5; omega
 refine Z ?_
 cases h6 : ((n : Int) == 4) with
 | true =>
  have e : n = 4 := by have := eq_of_beq h6; omega
  subst e
  rw [show tbV 4 k = ((k : Int) == 1) from (ibeq k 1).symm]
  exact O
 | false =>
 have eh6 : n ≠ 4 := by have := ne_of_beq_false h6; omega
 refine Z ?_
 rw [show tbV n k = false from by unfold tbV; simp [eh0, eh1, eh2, eh3, eh4, eh5, eh6]]
 exact k'j rfl
def tbL (n k : Nat) : Bool := n == 1 && k == 2
def tbK (n k : Nat) : Bool := (n == 1 || n == 2) && k == 2
theorem tbL_calls (n k : Nat) : k'5 (cx B) 268 [iT n, iT k] [] (.d (.bool (tbL n k))) [] := by
 unfold tbL
 refine l_bw Tryz.func268 0 [] ?_
 rw [show ((n : Int) == 1) = (n == 1) from ibeq n 1]
 cases h : (n == 1)
 ·exact O
 refine Z ?_
 rw [show ((k : Int) == 2) = (k == 2) from ibeq k 2]
 exact k'j rfl
theorem tbK_calls (n k : Nat) : k'5 (cx B) 94 [iT n, iT k] [] (.d (.bool (tbK n k))) [] := by
 unfold tbK
 refine l_bw Tryz.func94 0 [] ?_
 rw [show ((n : Int) == 1) = (n == 1) from ibeq n 1]
 cases h : (n == 1)
 rotate_left
 ·refine Z ?_
  rw [show ((k : Int) == 2) = (k == 2) from ibeq k 2]
  exact k'j rfl
 refine Z ?_
 rw [show ((n : Int) == 2) = (n == 2) from ibeq n 2]
 cases h2 : (n == 2)
 ·exact O
 refine Z ?_
 rw [show ((k : Int) == 2) = (k == 2) from ibeq k 2]
 exact k'j rfl
