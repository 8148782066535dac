/- Texts: where the signs end; is it one? -/
import Derived.Test.YtaenjdichndafaaGreatDoorXG3
set_option linter.unusedSimpArgs false
set_option linter.unusedVariables false
set_option maxRecDepth 100000
namespace Go.Proofs.YtaenjdichndafaaGreatDoor
open Go Go.Abs
def folB (c : Nat) : Bool := decide (128 ≤ c) && decide (c ≤ 191)
def szU (c : Nat) : Nat := if 244 < c ∨ (128 ≤ c ∧ c < 194) then 0 else if 240 ≤ c then 4 else if 224 ≤ c then 3 else if 194 ≤ c then 2 else 1
def secB (a c : Nat) : Bool :=
  if a = 224 then decide (160 ≤ c) && folB c else if a = 237 then decide (c ≤ 159) && folB c else if a = 240 then decide (144 ≤ c) && folB c else if a = 244 then decide (c ≤ 143) && folB c else folB c
/-- The bytes of the sign in front; 0: it is none. -/
def signN : List UInt8 → Nat
  | [] => 0
  | a :: r => if r.length + 1 < szU a.toNat then 0 else if 1 < szU a.toNat ∧ secB a.toNat ((r.headD 0).toNat) = false then 0 else if ((r.drop 1).take (szU a.toNat - 2)).all (fun c => folB c.toNat) then szU a.toNat else 0
theorem szU_le (c : Nat) : szU c ≤ 4 := by unfold szU; split; omega; split; omega; split; omega; split <;> omega
theorem signN_cons (a : UInt8) (r : List UInt8) : signN (a :: r) = if r.length + 1 < szU a.toNat then 0 else if 1 < szU a.toNat ∧ secB a.toNat ((r.headD 0).toNat) = false then 0 else if ((r.drop 1).take (szU a.toNat - 2)).all (fun c => folB c.toNat) then szU a.toNat else 0 := rfl
theorem signN_le (l : List UInt8) : signN l ≤ l.length ∧ signN l ≤ 4 := by
  cases l with
  | nil => simp [signN]
  | cons a r =>
    have := szU_le a.toNat
    rw [signN_cons]
    by_cases h1 : r.length + 1 < szU a.toNat
    · rw [if_pos h1]; omega
    rw [if_neg h1]
    by_cases h2 : 1 < szU a.toNat ∧ secB a.toNat ((r.headD 0).toNat) = false
    · rw [if_pos h2]; omega
    rw [if_neg h2]
    cases ((r.drop 1).take (szU a.toNat - 2)).all (fun c => folB c.toNat) with
    | true => simp only [if_true, List.length_cons]; omega
    | false => simp
def whF : Nat → List UInt8 → Nat → Nat
  | 0, _, a => a
  | f + 1, s, a => if a < s.length then (if signN (s.drop a) = 0 then a else whF f s (a + signN (s.drop a))) else a
theorem whF_le (s : List UInt8) : ∀ (f a : Nat), a ≤ s.length → whF f s a ≤ s.length
  | 0, a, h => h
  | f + 1, a, h => by
    have := (signN_le (s.drop a)).1
    simp at this
    unfold whF
    split
    · split
      · omega
      · exact whF_le s f _ (by omega)
    · omega
/-- Where the first sign is none, or the end. -/
def whU (s : List UInt8) : Nat := whF (s.length + 1) s 0
def txt (s : List UInt8) : Bool := whU s == s.length
variable (B : Fr)
theorem follows_calls (c : UInt8) : CallsA (cx B) 171 [.d (byteD c)] [] (.d (.bool (folB c.toNat))) [] := by
  unfold folB
  refine l_body (X := cx B) (fn := Tryz.f171) Tryz.func171 rfl rfl rfl rfl rfl 0 [] rfl rfl ?_
  refine walk ?_
  by_cases h : 128 ≤ c.toNat
  · rw [show decide ((c.toNat : Int) ≥ 128) = true from decide_eq_true (by omega), decide_eq_true h]
    refine walk ?_
    rw [show decide ((c.toNat : Int) ≤ 191) = decide (c.toNat ≤ 191) from decide_eq_decide.2 (by omega)]
    exact l_end trivial (by decide) rfl rfl rfl rfl rfl
  · rw [show decide ((c.toNat : Int) ≥ 128) = false from decide_eq_false (by omega), decide_eq_false h]
    refine walk ?_
    exact l_end trivial (by decide) rfl rfl rfl rfl rfl
theorem size_calls (c : UInt8) : CallsA (cx B) 169 [.d (byteD c)] [] (iT (szU c.toNat)) [] := by
  have hc := byte_lt c
  unfold szU
  refine l_body (X := cx B) (fn := Tryz.f169) Tryz.func169 rfl rfl rfl rfl rfl 0 [] rfl rfl ?_
  refine walk ?_
  by_cases h1 : 244 < c.toNat
  · rw [show decide ((c.toNat : Int) > 244) = true from decide_eq_true (by omega), if_pos (.inl h1)]
    refine walk ?_
    exact l_end trivial (by decide) rfl rfl rfl rfl rfl
  rw [show decide ((c.toNat : Int) > 244) = false from decide_eq_false (by omega)]
  refine walk ?_
  by_cases h2 : 128 ≤ c.toNat ∧ c.toNat < 194
  · rw [show decide ((c.toNat : Int) ≥ 128) = true from decide_eq_true (by omega), if_pos (.inr h2)]
    refine walk ?_
    rw [show decide ((c.toNat : Int) < 194) = true from decide_eq_true (by omega)]
    refine walk ?_
    exact l_end trivial (by decide) rfl rfl rfl rfl rfl
  rw [if_neg (by omega)]
  have key : (decide ((c.toNat : Int) ≥ 128) = false) ∨ (decide ((c.toNat : Int) ≥ 128) = true ∧ decide ((c.toNat : Int) < 194) = false) := by
    by_cases h : 128 ≤ c.toNat
    · exact .inr ⟨decide_eq_true (by omega), decide_eq_false (by omega)⟩
    · exact .inl (decide_eq_false (by omega))
  rcases key with hk | ⟨hk, hk2⟩
  · rw [hk]
    refine walk ?_
    rw [show decide ((c.toNat : Int) ≥ 240) = false from decide_eq_false (by have := of_decide_eq_false hk; omega)]
    refine walk ?_
    rw [show decide ((c.toNat : Int) ≥ 224) = false from decide_eq_false (by have := of_decide_eq_false hk; omega)]
    refine walk ?_
    rw [show decide ((c.toNat : Int) ≥ 194) = false from decide_eq_false (by have := of_decide_eq_false hk; omega)]
    refine walk ?_
    have := of_decide_eq_false hk
    rw [if_neg (by omega), if_neg (by omega), if_neg (by omega)]
    exact l_end trivial (by decide) rfl rfl rfl rfl rfl
  · rw [hk]
    refine walk ?_
    rw [hk2]
    refine walk ?_
    by_cases h3 : 240 ≤ c.toNat
    · rw [show decide ((c.toNat : Int) ≥ 240) = true from decide_eq_true (by omega), if_pos h3]
      refine walk ?_
      exact l_end trivial (by decide) rfl rfl rfl rfl rfl
    rw [show decide ((c.toNat : Int) ≥ 240) = false from decide_eq_false (by omega), if_neg h3]
    refine walk ?_
    by_cases h4 : 224 ≤ c.toNat
    · rw [show decide ((c.toNat : Int) ≥ 224) = true from decide_eq_true (by omega), if_pos h4]
      refine walk ?_
      exact l_end trivial (by decide) rfl rfl rfl rfl rfl
    rw [show decide ((c.toNat : Int) ≥ 224) = false from decide_eq_false (by omega), if_neg h4]
    refine walk ?_
    have := of_decide_eq_false hk2
    rw [show decide ((c.toNat : Int) ≥ 194) = true from decide_eq_true (by omega), if_pos (by omega)]
    refine walk ?_
    exact l_end trivial (by decide) rfl rfl rfl rfl rfl
theorem second_calls (a c : UInt8) : CallsA (cx B) 170 [.d (byteD a), .d (byteD c)] [] (.d (.bool (secB a.toNat c.toNat))) [] := by
  have hf := follows_calls B c
  unfold secB
  have beq : ∀ k : Nat, ((a.toNat : Int) == (k : Int)) = decide (a.toNat = k) := fun k => by
    by_cases h : a.toNat = k
    · rw [h]; simp
    · rw [decide_eq_false h]; simp; omega
  refine l_body (X := cx B) (fn := Tryz.f170) Tryz.func170 rfl rfl rfl rfl rfl 0 [] rfl rfl ?_
  refine walk ?_
  by_cases h1 : a.toNat = 224
  · rw [show ((a.toNat : Int) == 224) = true by rw [h1]; rfl, if_pos h1]
    refine walk ?_
    by_cases h : 160 ≤ c.toNat
    · rw [show decide ((c.toNat : Int) ≥ 160) = true from decide_eq_true (by omega), decide_eq_true h]
      refine walk ?_
      refine l_callG [] (hf) rfl rfl rfl rfl rfl rfl rfl rfl rfl (by decide) rfl rfl rfl rfl rfl ?_
      refine walk ?_
      exact l_end trivial (by decide) rfl rfl rfl rfl rfl
    · rw [show decide ((c.toNat : Int) ≥ 160) = false from decide_eq_false (by omega), decide_eq_false h]
      refine walk ?_
      exact l_end trivial (by decide) rfl rfl rfl rfl rfl
  rw [show ((a.toNat : Int) == 224) = false by simp; omega, if_neg h1]
  refine walk ?_
  by_cases h2 : a.toNat = 237
  · rw [show ((a.toNat : Int) == 237) = true by rw [h2]; rfl, if_pos h2]
    refine walk ?_
    by_cases h : c.toNat ≤ 159
    · rw [show decide ((c.toNat : Int) ≤ 159) = true from decide_eq_true (by omega), decide_eq_true h]
      refine walk ?_
      refine l_callG [] (hf) rfl rfl rfl rfl rfl rfl rfl rfl rfl (by decide) rfl rfl rfl rfl rfl ?_
      refine walk ?_
      exact l_end trivial (by decide) rfl rfl rfl rfl rfl
    · rw [show decide ((c.toNat : Int) ≤ 159) = false from decide_eq_false (by omega), decide_eq_false h]
      refine walk ?_
      exact l_end trivial (by decide) rfl rfl rfl rfl rfl
  rw [show ((a.toNat : Int) == 237) = false by simp; omega, if_neg h2]
  refine walk ?_
  by_cases h3 : a.toNat = 240
  · rw [show ((a.toNat : Int) == 240) = true by rw [h3]; rfl, if_pos h3]
    refine walk ?_
    by_cases h : 144 ≤ c.toNat
    · rw [show decide ((c.toNat : Int) ≥ 144) = true from decide_eq_true (by omega), decide_eq_true h]
      refine walk ?_
      refine l_callG [] (hf) rfl rfl rfl rfl rfl rfl rfl rfl rfl (by decide) rfl rfl rfl rfl rfl ?_
      refine walk ?_
      exact l_end trivial (by decide) rfl rfl rfl rfl rfl
    · rw [show decide ((c.toNat : Int) ≥ 144) = false from decide_eq_false (by omega), decide_eq_false h]
      refine walk ?_
      exact l_end trivial (by decide) rfl rfl rfl rfl rfl
  rw [show ((a.toNat : Int) == 240) = false by simp; omega, if_neg h3]
  refine walk ?_
  by_cases h4 : a.toNat = 244
  · rw [show ((a.toNat : Int) == 244) = true by rw [h4]; rfl, if_pos h4]
    refine walk ?_
    by_cases h : c.toNat ≤ 143
    · rw [show decide ((c.toNat : Int) ≤ 143) = true from decide_eq_true (by omega), decide_eq_true h]
      refine walk ?_
      refine l_callG [] (hf) rfl rfl rfl rfl rfl rfl rfl rfl rfl (by decide) rfl rfl rfl rfl rfl ?_
      refine walk ?_
      exact l_end trivial (by decide) rfl rfl rfl rfl rfl
    · rw [show decide ((c.toNat : Int) ≤ 143) = false from decide_eq_false (by omega), decide_eq_false h]
      refine walk ?_
      exact l_end trivial (by decide) rfl rfl rfl rfl rfl
  rw [show ((a.toNat : Int) == 244) = false by simp; omega, if_neg h4]
  refine walk ?_
  refine l_call [] (hf) rfl rfl rfl rfl rfl rfl rfl (by decide) rfl rfl rfl rfl rfl ?_
  refine walk ?_
  exact l_end trivial (by decide) rfl rfl rfl rfl rfl
theorem sign_calls (a : UInt8) (r : List UInt8) (hl : r.length < big) : CallsA (cx B) 166 [sT (a :: r)] [] (iT (signN (a :: r))) [] := by
  have h4 := szU_le a.toNat
  have h1 := size_calls B a
  unfold big at hl
  have hlen : ((a :: r).length : Int) = r.length + 1 := by simp
  rw [signN_cons]
  generalize szU a.toNat = n at *
  refine l_body (X := cx B) (fn := Tryz.f166) Tryz.func166 rfl rfl rfl rfl rfl 0 [] rfl rfl ?_
  refine walk ?_
  refine l_step (.index (k := .i64) (n := 0) (s := a :: r) (c := a) rfl rfl rfl rfl rfl (by omega) rfl) rfl rfl ?_
  refine l_call [] (h1) rfl rfl rfl rfl rfl rfl rfl (by decide) rfl rfl rfl rfl rfl ?_
  refine walk ?_
  (repeat ((with_reducible refine is_runX ?_); first | refine x_skip rfl rfl ?_ | refine x_pure rfl rfl rfl ?_ | refine x_load rfl rfl rfl rfl rfl rfl ?_))
  rw [hlen]
  by_cases c1 : r.length + 1 < n
  · rw [show decide ((n : Int) > (r.length : Int) + 1) = true from decide_eq_true (by omega), if_pos c1]
    refine walk ?_
    exact l_end trivial (by decide) rfl rfl rfl rfl rfl
  rw [show decide ((n : Int) > (r.length : Int) + 1) = false from decide_eq_false (by omega), if_neg c1]
  (repeat ((with_reducible refine is_runX ?_); first | refine x_skip rfl rfl ?_ | refine x_pure rfl rfl rfl ?_ | refine x_load rfl rfl rfl rfl rfl rfl ?_))
  by_cases c2 : 1 < n
  · rw [show decide ((n : Int) > 1) = true from decide_eq_true (by omega)]
    obtain ⟨b, q, hr⟩ : ∃ b q, r = b :: q := by
      cases r with
      | nil => simp at c1; omega
      | cons b q => exact ⟨b, q, rfl⟩
    have h2 := second_calls B a b
    have hr0 : (a :: r)[1]? = some b := by rw [hr]; rfl
    have hb : r.headD 0 = b := by rw [hr]; rfl
    clear hr
    rw [hb]
    (repeat ((with_reducible refine is_runX ?_); first | refine x_skip rfl rfl ?_ | refine x_pure rfl rfl rfl ?_ | refine x_load rfl rfl rfl rfl rfl rfl ?_))
    refine x_mob (.index (k := .i64) (n := 0) (s := a :: r) (c := a) rfl rfl rfl rfl rfl (by omega) rfl) rfl rfl rfl ?_
    (repeat ((with_reducible refine is_runX ?_); first | refine x_skip rfl rfl ?_ | refine x_pure rfl rfl rfl ?_ | refine x_load rfl rfl rfl rfl rfl rfl ?_))
    refine x_mob (.index (k := .i64) (n := 1) (s := a :: r) (c := b) rfl rfl rfl rfl rfl (by omega) hr0) rfl rfl rfl ?_
    refine x_call [] (h2) rfl rfl rfl rfl rfl rfl (by decide) rfl rfl rfl rfl rfl rfl ?_
    cases hsc : secB a.toNat b.toNat with
    | false =>
      rw [if_pos ⟨c2, rfl⟩]
      refine walk ?_
      exact l_end trivial (by decide) rfl rfl rfl rfl rfl
    | true =>
    rw [if_neg (by simp)]
    refine walk ?_
    refine l_loop (fun i : Nat => n - i) (fun i => [(0, sT (a :: r)), (3, iT n), (4, iT i)]) (fun _ => []) (fun i => 2 ≤ i ∧ (i ≤ n ∨ i = 2) ∧ ((r.drop 1).take (i - 2)).all (fun c => folB c.toNat) = true) 2 ⟨by omega, .inr rfl, by simp⟩ ⟨rfl, rfl, rfl, trivial⟩ rfl 0 rfl (fun _ => rfl) (fun _ => rfl) (fun _ => rfl) ?_
    rintro i ⟨i1, i2, i3⟩
    refine walk ?_
    by_cases hlt : i < n
    · rw [show decide ((i : Int) < n) = true from decide_eq_true (by omega)]
      obtain ⟨c, hci⟩ : ∃ c, (a :: r)[i]? = some c := ⟨_, List.getElem?_eq_getElem (by simp; omega)⟩
      have hdi : (r.drop 1)[i - 2]? = some c := by
        rw [List.getElem?_drop]
        rw [show i = (1 + (i - 2)) + 1 by omega, List.getElem?_cons_succ] at hci
        exact hci
      have htk : (r.drop 1).take (i + 1 - 2) = (r.drop 1).take (i - 2) ++ [c] := by
        rw [show i + 1 - 2 = (i - 2) + 1 by omega, List.take_add_one, hdi]; rfl
      have hf := follows_calls B c
      refine walk ?_
      refine l_step (.index (k := .i64) (n := i) (s := a :: r) (c := c) rfl rfl rfl rfl rfl (by omega) (by rw [Int.toNat_natCast]; exact hci)) rfl rfl ?_
      refine l_call [] (hf) rfl rfl rfl rfl rfl rfl rfl (by decide) rfl rfl rfl rfl rfl ?_
      refine walk ?_
      cases hfc : folB c.toNat with
      | false =>
        have : ((r.drop 1).take (n - 2)).all (fun c => folB c.toNat) = false := by
          cases hh : ((r.drop 1).take (n - 2)).all (fun c => folB c.toNat) with
          | false => rfl
          | true =>
            have := List.all_eq_true.1 hh c (List.mem_of_getElem? (i := i - 2) (by rw [List.getElem?_take_of_lt (by omega)]; exact hdi))
            rw [hfc] at this; simp at this
        rw [this]
        refine walk ?_
        exact l_end trivial (by decide) rfl rfl rfl rfl rfl
      | true =>
        refine walk ?_
        rw [show IntKind.i64.wrap ((i : Int) + 1) = ((i + 1 : Nat) : Int) by rw [wrapI (by omega) (by omega)]; omega]
        exact ⟨i + 1, by omega, ⟨by omega, .inl (by omega), by rw [htk, List.all_append, i3]; simp [hfc]⟩, ⟨rfl, rfl, rfl, trivial⟩, rfl, wk_eq rfl⟩
    · rw [show decide ((i : Int) < n) = false from decide_eq_false (by omega)]
      have : ((r.drop 1).take (n - 2)).all (fun c => folB c.toNat) = true := by
        rcases i2 with h | h
        · rw [show n = i by omega]; exact i3
        · rw [show n - 2 = 0 by omega]; simp
      rw [this]
      refine walk ?_
      exact l_end trivial (by decide) rfl rfl rfl rfl rfl
  · rw [show decide ((n : Int) > 1) = false from decide_eq_false (by omega), if_neg (fun h => c2 h.1)]
    refine walk ?_
    refine l_loop (fun i : Nat => n - i) (fun i => [(0, sT (a :: r)), (3, iT n), (4, iT i)]) (fun _ => []) (fun i => 2 ≤ i ∧ (i ≤ n ∨ i = 2) ∧ ((r.drop 1).take (i - 2)).all (fun c => folB c.toNat) = true) 2 ⟨by omega, .inr rfl, by simp⟩ ⟨rfl, rfl, rfl, trivial⟩ rfl 0 rfl (fun _ => rfl) (fun _ => rfl) (fun _ => rfl) ?_
    rintro i ⟨i1, i2, i3⟩
    refine walk ?_
    by_cases hlt : i < n
    · rw [show decide ((i : Int) < n) = true from decide_eq_true (by omega)]
      obtain ⟨c, hci⟩ : ∃ c, (a :: r)[i]? = some c := ⟨_, List.getElem?_eq_getElem (by simp; omega)⟩
      have hdi : (r.drop 1)[i - 2]? = some c := by
        rw [List.getElem?_drop]
        rw [show i = (1 + (i - 2)) + 1 by omega, List.getElem?_cons_succ] at hci
        exact hci
      have htk : (r.drop 1).take (i + 1 - 2) = (r.drop 1).take (i - 2) ++ [c] := by
        rw [show i + 1 - 2 = (i - 2) + 1 by omega, List.take_add_one, hdi]; rfl
      have hf := follows_calls B c
      refine walk ?_
      refine l_step (.index (k := .i64) (n := i) (s := a :: r) (c := c) rfl rfl rfl rfl rfl (by omega) (by rw [Int.toNat_natCast]; exact hci)) rfl rfl ?_
      refine l_call [] (hf) rfl rfl rfl rfl rfl rfl rfl (by decide) rfl rfl rfl rfl rfl ?_
      refine walk ?_
      cases hfc : folB c.toNat with
      | false =>
        have : ((r.drop 1).take (n - 2)).all (fun c => folB c.toNat) = false := by
          cases hh : ((r.drop 1).take (n - 2)).all (fun c => folB c.toNat) with
          | false => rfl
          | true =>
            have := List.all_eq_true.1 hh c (List.mem_of_getElem? (i := i - 2) (by rw [List.getElem?_take_of_lt (by omega)]; exact hdi))
            rw [hfc] at this; simp at this
        rw [this]
        refine walk ?_
        exact l_end trivial (by decide) rfl rfl rfl rfl rfl
      | true =>
        refine walk ?_
        rw [show IntKind.i64.wrap ((i : Int) + 1) = ((i + 1 : Nat) : Int) by rw [wrapI (by omega) (by omega)]; omega]
        exact ⟨i + 1, by omega, ⟨by omega, .inl (by omega), by rw [htk, List.all_append, i3]; simp [hfc]⟩, ⟨rfl, rfl, rfl, trivial⟩, rfl, wk_eq rfl⟩
    · rw [show decide ((i : Int) < n) = false from decide_eq_false (by omega)]
      have : ((r.drop 1).take (n - 2)).all (fun c => folB c.toNat) = true := by
        rcases i2 with h | h
        · rw [show n = i by omega]; exact i3
        · rw [show n - 2 = 0 by omega]; simp
      rw [this]
      refine walk ?_
      exact l_end trivial (by decide) rfl rfl rfl rfl rfl
theorem whole_calls (s : List UInt8) (hl : s.length < big) : CallsA (cx B) 161 [sT s, iT s.length] [] (iT (whU s)) [] := by
  have hl' := hl
  unfold big at hl'
  refine l_body (X := cx B) (fn := Tryz.f161) Tryz.func161 rfl rfl rfl rfl rfl 0 [] rfl rfl ?_
  refine walk ?_
  refine l_loop (fun x : Nat × Nat => x.2) (fun x => [(0, sT s), (1, iT s.length), (5, iT x.1)]) (fun _ => []) (fun x => x.1 ≤ s.length ∧ s.length - x.1 < x.2 ∧ whU s = whF x.2 s x.1) (0, s.length + 1) ⟨by omega, by show s.length - 0 < s.length + 1; omega, rfl⟩ ⟨rfl, rfl, rfl, trivial⟩ rfl 0 rfl (fun _ => rfl) (fun _ => rfl) (fun _ => rfl) ?_
  rintro ⟨p, f⟩ ⟨i1, i2, i3⟩
  dsimp only at i1 i2 i3 ⊢
  cases f with
  | zero => omega
  | succ f =>
  unfold whF at i3
  refine walk ?_
  by_cases hp : p < s.length
  · rw [show decide ((p : Int) < s.length) = true from decide_eq_true (by omega)]
    rw [if_pos hp] at i3
    obtain ⟨c, hci⟩ : ∃ c, s[p]? = some c := ⟨_, List.getElem?_eq_getElem hp⟩
    have hdr : s.drop p = c :: s.drop (p + 1) := by
      rw [List.drop_eq_getElem_cons hp]; rw [List.getElem?_eq_getElem hp] at hci; injection hci with hci; rw [hci]
    have h1 := sign_calls B c (s.drop (p + 1)) (by simp; omega)
    have hle := (signN_le (s.drop p)).1
    rw [← hdr] at h1
    simp only [List.length_drop] at hle
    generalize signN (s.drop p) = n at *
    refine walk ?_
    refine l_step (.sliceStr (s := s) (l := p) (h := s.length) rfl rfl rfl rfl ⟨.i64, rfl⟩ rfl (by omega) (Nat.le_refl _)) rfl rfl ?_
    rw [drop_take_all]
    refine l_call [] (h1) rfl rfl rfl rfl rfl rfl rfl (by decide) rfl rfl rfl rfl rfl ?_
    refine walk ?_
    by_cases h0 : n = 0
    · rw [show ((n : Int) == 0) = true by rw [h0]; rfl]
      rw [if_pos h0] at i3
      refine walk ?_
      rw [i3]
      exact l_end trivial (by decide) rfl rfl rfl rfl rfl
    · rw [show ((n : Int) == 0) = false by simp; omega]
      rw [if_neg h0] at i3
      refine walk ?_
      rw [show IntKind.i64.wrap ((s.length : Int) - p) = (s.length : Int) - p from wrapI (by omega) (by omega), show decide ((n : Int) > (s.length : Int) - p) = false from decide_eq_false (by omega)]
      refine walk ?_
      rw [show IntKind.i64.wrap ((p : Int) + n) = ((p + n : Nat) : Int) by rw [wrapI (by omega) (by omega)]; omega]
      exact ⟨(p + n, f), Nat.lt_succ_self f, ⟨by show p + n ≤ _; omega, by show s.length - (p + n) < f; omega, i3⟩, ⟨rfl, rfl, rfl, trivial⟩, rfl, wk_eq rfl⟩
  · rw [show decide ((p : Int) < s.length) = false from decide_eq_false (by omega)]
    rw [if_neg hp] at i3
    rw [i3]
    refine walk ?_
    exact l_end trivial (by decide) rfl rfl rfl rfl rfl
theorem whU_le (s : List UInt8) : whU s ≤ s.length := whF_le s _ 0 (by omega)
theorem Bad_calls (s : List UInt8) (hl : s.length < big) : CallsA (cx B) 150 [sT s] [] (.d (.int .i64 (if txt s then -1 else whU s))) [] := by
  have h1 := whole_calls B s hl
  unfold txt
  refine l_body (X := cx B) (fn := Tryz.f150) Tryz.func150 rfl rfl rfl rfl rfl 0 [] rfl rfl ?_
  refine walk ?_
  refine l_call [] (h1) rfl rfl rfl rfl rfl rfl rfl (by decide) rfl rfl rfl rfl rfl ?_
  refine walk ?_
  by_cases h : whU s = s.length
  · rw [show ((whU s : Int) == s.length) = true by rw [h]; simp, show (whU s == s.length) = true by simp [h]]
    refine walk ?_
    exact l_end trivial (by decide) rfl rfl rfl rfl rfl
  · rw [show ((whU s : Int) == s.length) = false by simp; omega, show (whU s == s.length) = false by simp [h]]
    refine walk ?_
    exact l_end trivial (by decide) rfl rfl rfl rfl rfl
theorem Valid_calls (s : List UInt8) (hl : s.length < big) : CallsA (cx B) 127 [sT s] [] (.d (.bool (txt s))) [] := by
  have h1 := Bad_calls B s hl
  refine l_body (X := cx B) (fn := Tryz.f127) Tryz.func127 rfl rfl rfl rfl rfl 0 [] rfl rfl ?_
  refine walk ?_
  refine l_call [] (h1) rfl rfl rfl rfl rfl rfl rfl (by decide) rfl rfl rfl rfl rfl ?_
  refine walk ?_
  cases txt s with
  | true =>
    exact l_end trivial (by decide) rfl rfl rfl rfl rfl
  | false =>
    simp only [Bool.false_eq_true, if_false]
    rw [show decide ((whU s : Int) < 0) = false from decide_eq_false (by omega)]
    exact l_end trivial (by decide) rfl rfl rfl rfl rfl
theorem utfCheck_calls (s : List UInt8) (hl : s.length < big) : CallsA (cx B) 136 [sT s] [] (.d (eD (if txt s then none else some (.loc (whU s) (.code 5))))) [] := by
  have h1 := Bad_calls B s hl
  refine l_body (X := cx B) (fn := Tryz.f136) Tryz.func136 rfl rfl rfl rfl rfl 0 [] rfl rfl ?_
  refine walk ?_
  refine l_call [] (h1) rfl rfl rfl rfl rfl rfl rfl (by decide) rfl rfl rfl rfl rfl ?_
  refine walk ?_
  cases txt s with
  | true =>
    refine walk ?_
    exact l_end trivial (by decide) rfl rfl rfl rfl rfl
  | false =>
    simp only [Bool.false_eq_true, if_false]
    rw [show decide ((whU s : Int) ≥ 0) = true from decide_eq_true (by omega)]
    refine walk ?_
    refine l_call [] (At_calls B (whU s) (some (.code 5))) rfl rfl rfl rfl rfl rfl rfl (by decide) rfl rfl rfl rfl rfl ?_
    refine walk ?_
    exact l_end trivial (by decide) rfl rfl rfl rfl rfl
end Go.Proofs.YtaenjdichndafaaGreatDoor
