/- The writer: what may lack; packed numbers. And more. -/
import Derived.Test.YthogjpjcidfoaaaGreatDoorXG1
set_option linter.unusedSimpArgs false
set_option linter.unusedVariables false
set_option maxRecDepth 100000
/-! The writer: what may lack; packed numbers. -/
namespace Go.Proofs.YthogjpjcidfoaaaGreatDoor
open Go Go.Abs
variable (B : Fr)
theorem Var_zero (a : T) (l : List UInt8) (n : Nat) (ha : adOk a) : CallsA (cx B) 47 [.ptr 0 0, iT n, uT 0] [.mu [a, bT l]] (.tup []) [.mu [a, bT l]] := by
  rcases ha with rfl | rfl | rfl <;> (rcases l with _ | ⟨c, l⟩ <;> (
  refine l_body (X := cx B) (fn := Tryz.f47) Tryz.func47 rfl rfl rfl rfl rfl 1 [] rfl rfl ?_
  refine walk ?_
  exact l_end trivial (by decide) rfl rfl rfl rfl rfl))
theorem Var_calls (a : T) (l : List UInt8) (n m : Nat) (ha : adOk a) (h1 : 1 ≤ n) (h2 : n ≤ 536870911) (h0 : m ≠ 0) (hm : m < 2 ^ 64) (hl : l.length < big) : CallsA (cx B) 47 [.ptr 0 0, iT n, uT m] [.mu [a, bT l]] (.tup []) [.mu [.me, bT (l ++ (tagV n 0 ++ putV m))]] := by
  have h3 := Few_calls B a l n m ha h1 h2 hm hl
  generalize l ++ (tagV n 0 ++ putV m) = y at *
  rcases ha with rfl | rfl | rfl <;> (rcases l with _ | ⟨c, l⟩ <;> (rcases y with _ | ⟨c', y⟩ <;> (
  refine l_body (X := cx B) (fn := Tryz.f47) Tryz.func47 rfl rfl rfl rfl rfl 1 [] rfl rfl ?_
  refine walk ?_
  rw [show decide ((m : Int) > 0) = true from decide_eq_true (by omega)]
  refine walk ?_
  refine l_call [0] (h3) rfl rfl rfl rfl rfl rfl rfl (by decide) rfl rfl rfl rfl rfl ?_
  refine walk ?_
  exact l_end trivial (by decide) rfl rfl rfl rfl rfl)))
theorem Text_nil (a : T) (l : List UInt8) (n : Nat) (ha : adOk a) : CallsA (cx B) 101 [.ptr 0 0, iT n, sT []] [.mu [a, bT l]] (.tup []) [.mu [a, bT l]] := by
  rcases ha with rfl | rfl | rfl <;> (rcases l with _ | ⟨c, l⟩ <;> (
  refine l_body (X := cx B) (fn := Tryz.f101) Tryz.func101 rfl rfl rfl rfl rfl 1 [] rfl rfl ?_
  refine walk ?_
  exact l_end trivial (by decide) rfl rfl rfl rfl rfl))
theorem Text_calls (a : T) (l : List UInt8) (n : Nat) (s : List UInt8) (ha : adOk a) (h1 : 1 ≤ n) (h2 : n ≤ 536870911) (h0 : s ≠ []) (hl : l.length + s.length < big) : CallsA (cx B) 101 [.ptr 0 0, iT n, sT s] [.mu [a, bT l]] (.tup []) [.mu [.me, bT (l ++ (tagV n 2 ++ (putV s.length ++ s)))]] := by
  have h3 := Part_calls B a l n s ha h1 h2 hl
  generalize l ++ (tagV n 2 ++ (putV s.length ++ s)) = y at *
  have hs : (s != []) = true := by cases s with | nil => exact absurd rfl h0 | cons _ _ => rfl
  rcases ha with rfl | rfl | rfl <;> (rcases l with _ | ⟨c, l⟩ <;> (rcases y with _ | ⟨c', y⟩ <;> (
  refine l_body (X := cx B) (fn := Tryz.f101) Tryz.func101 rfl rfl rfl rfl rfl 1 [] rfl rfl ?_
  refine walk ?_
  rw [show (!(s == [])) = true from hs]
  refine walk ?_
  refine l_call [0] (h3) rfl rfl rfl rfl rfl rfl rfl (by decide) rfl rfl rfl rfl rfl ?_
  refine walk ?_
  exact l_end trivial (by decide) rfl rfl rfl rfl rfl)))
end Go.Proofs.YthogjpjcidfoaaaGreatDoor

/-! The writer: packed numbers. -/
namespace Go.Proofs.YthogjpjcidfoaaaGreatDoor
open Go Go.Abs
variable (B : Fr)
theorem bT_plain (l : List UInt8) : (bT l).plain = true := by cases l <;> rfl
theorem adOk.plain {a : T} (h : adOk a) : a.plain = true := by rcases h with rfl | rfl | rfl <;> rfl
theorem bo_plain {a : T} (h : adOk a) (l : List UInt8) : Ob.plain (.mu [a, bT l]) = true := by simp [Ob.plain, h.plain, bT_plain]
end Go.Proofs.YthogjpjcidfoaaaGreatDoor

/-! Buckets: may they be? -/
namespace Go.Proofs.YthogjpjcidfoaaaGreatDoor
open Go Go.Abs
variable (B : Fr)
end Go.Proofs.YthogjpjcidfoaaaGreatDoor

/-! Numbers folded and unfolded; buckets written. -/
namespace Go.Proofs.YthogjpjcidfoaaaGreatDoor
open Go Go.Abs
variable (B : Fr)
end Go.Proofs.YthogjpjcidfoaaaGreatDoor

/-! Buckets written. -/
namespace Go.Proofs.YthogjpjcidfoaaaGreatDoor
open Go Go.Abs
variable (B : Fr)
def vrV (n m : Nat) : List UInt8 := if m = 0 then [] else tagV n 0 ++ putV m
/-- Var, whether it lacks or not. -/
theorem Var_any (a : T) (l : List UInt8) (n m : Nat) (ha : adOk a) (h1 : 1 ≤ n) (h2 : n ≤ 536870911) (hm : m < 2 ^ 64) (hl : l.length < big) : ∃ a', adOk a' ∧ CallsA (cx B) 47 [.ptr 0 0, iT n, uT m] [.mu [a, bT l]] (.tup []) [.mu [a', bT (l ++ vrV n m)]] := by
  by_cases h0 : m = 0
  · subst h0
    exact ⟨a, ha, by rw [show vrV n 0 = [] from rfl, List.append_nil]; exact Var_zero B a l n ha⟩
  · exact ⟨.me, .inl rfl, by rw [show vrV n m = tagV n 0 ++ putV m from if_neg h0]; exact Var_calls B a l n m ha h1 h2 h0 hm hl⟩
theorem vrV_len (n m : Nat) : (vrV n m).length ≤ 20 := by
  unfold vrV; split
  · simp
  · have := tagV_len n 0; have := putV_len m; simp; omega
end Go.Proofs.YthogjpjcidfoaaaGreatDoor

/-! Buckets compared; room counted. -/
namespace Go.Proofs.YthogjpjcidfoaaaGreatDoor
open Go Go.Abs
variable (B : Fr)
/-- What is left of a room. -/
def takeR (room : Int) (n : Nat) : Int := if room < 0 ∨ room - 20 < n then -1 else room - n - 20
theorem takeR_ge {room : Int} {n : Nat} (h : room < 9223372036854775000) : -1 ≤ takeR room n ∧ takeR room n < 9223372036854775000 := by unfold takeR; split <;> omega
theorem take_calls (room : Int) (n : Nat) (h1 : -1 ≤ room) (h2 : room < 9223372036854775000) (h3 : n ≤ 9223372036854775807) : CallsA (cx B) 36 [.d (.int .i64 room), iT n] [] (.d (.int .i64 (takeR room n))) [] := by
  unfold takeR
  refine l_body (X := cx B) (fn := Tryz.f36) Tryz.func36 rfl rfl rfl rfl rfl 0 [] rfl rfl ?_
  refine walk ?_
  by_cases hc : room < 0
  · rw [show decide (room < 0) = true from decide_eq_true hc, if_pos (.inl hc)]
    refine walk ?_
    exact l_end trivial (by decide) rfl rfl rfl rfl rfl
  · rw [show decide (room < 0) = false from decide_eq_false hc]
    refine walk ?_
    rw [show IntKind.i64.wrap (room - 20) = room - 20 from wrapI (by omega) (by omega)]
    by_cases hd : room - 20 < n
    · rw [if_pos (.inr hd), show decide ((n : Int) > room - 20) = true from decide_eq_true hd]
      refine walk ?_
      exact l_end trivial (by decide) rfl rfl rfl rfl rfl
    · rw [if_neg (by omega), show decide ((n : Int) > room - 20) = false from decide_eq_false (by omega)]
      refine walk ?_
      rw [show IntKind.i64.wrap (room - n) = room - n from wrapI (by omega) (by omega), show IntKind.i64.wrap (room - n - 20) = room - n - 20 from wrapI (by omega) (by omega)]
      exact l_end trivial (by decide) rfl rfl rfl rfl rfl
end Go.Proofs.YthogjpjcidfoaaaGreatDoor
