/- Buckets written. -/
import Derived.Test.YtfbckigcelmopaaGreatDoorX17
set_option linter.unusedSimpArgs false
set_option linter.unusedVariables false
set_option maxRecDepth 100000
namespace Go.Proofs.YtfbckigcelmopaaGreatDoor
open Go Go.Abs
variable (B : Fr)
def vrV (n m : Nat) : List UInt8 := if m = 0 then [] else tagV n 0 ++ putV m
def pkV (n : Nat) (cs : List Nat) : List UInt8 := if cs = [] then [] else tagV n 2 ++ (putV (packV cs).length ++ packV cs)
def marB (o : Int) (cs : List Nat) (u : List UInt8) : List UInt8 := vrV 1 (zig32 o) ++ pkV 2 cs ++ u
/-- Var, whether it lacks or not. -/
theorem Var_any (a : T) (l : List UInt8) (n m : Nat) (ha : adOk a) (h1 : 1 ≤ n) (h2 : n ≤ 536870911) (hm : m < 2 ^ 64) (hl : l.length < big) : ∃ a', adOk a' ∧ CallsA (cx B) 43 [.ptr 0 0, iT n, uT m] [.mu [a, bT l]] (.tup []) [.mu [a', bT (l ++ vrV n m)]] := by
  by_cases h0 : m = 0
  · subst h0
    exact ⟨a, ha, by rw [show vrV n 0 = [] from rfl, List.append_nil]; exact Var_zero B a l n ha⟩
  · exact ⟨.me, .inl rfl, by rw [show vrV n m = tagV n 0 ++ putV m from if_neg h0]; exact Var_calls B a l n m ha h1 h2 h0 hm hl⟩
theorem Vars_any (z : Bool) (a : T) (l : List UInt8) (n : Nat) (ns : List Nat) (ha : adOk a) (h1 : 1 ≤ n) (h2 : n ≤ 536870911) (hns : ∀ m ∈ ns, m < 2 ^ 64) (hl : l.length + 10 * ns.length < big) : ∃ a', adOk a' ∧ CallsA (cx B) 45 [.ptr 0 0, iT n, .d (.sl z (ns.map uD))] [.mu [a, bT l]] (.tup []) [.mu [a', bT (l ++ pkV n ns)]] := by
  by_cases h0 : ns = []
  · subst h0
    exact ⟨a, ha, by rw [show pkV n [] = [] from rfl, List.append_nil]; exact Vars_nilZ B z a l n ha⟩
  · exact ⟨.me, .inl rfl, by rw [show pkV n ns = _ from if_neg h0]; exact Vars_callsZ B z a l n ns ha h1 h2 hns h0 hl⟩
theorem zig32_lt (o : Int) (h1 : -2147483648 ≤ o) (h2 : o < 2147483648) : zig32 o < 2 ^ 64 := by unfold zig32; split <;> omega
theorem vrV_len (n m : Nat) : (vrV n m).length ≤ 20 := by
  unfold vrV; split
  · simp
  · have := tagV_len n 0; have := putV_len m; simp; omega
theorem pkV_len (n : Nat) (cs : List Nat) : (pkV n cs).length ≤ 20 + 10 * cs.length := by
  unfold pkV; split
  · simp
  · have := tagV_len n 2; have := putV_len (packV cs).length; have := packV_len cs; simp; omega
theorem MarshalZ (z : Bool) (o : Int) (cs : List Nat) (u : List UInt8) (d : Int) (h1 : -2147483648 ≤ o) (h2 : o < 2147483648) (hcs : ∀ m ∈ cs, m < 2 ^ 64) (hl : 10 * cs.length + u.length + 100 < big) (hd1 : -9223372036854775808 ≤ d) (hd2 : d < 9223372036854775808) :
    CallsA (cx B) 20 [.d (bkZ z o cs u), .d (.int .i64 d)] [] (if mayB u d then .tup [sT (marB o cs u), .d .nili] else .tup [sT [], .d (Er.code 8).d]) [] := by
  have hm := MayBucketsZ B z o cs u d (by unfold big at *; omega) hd1 hd2
  obtain ⟨a1, ha1, c1⟩ := Var_any B (.nw 91 2) [] 1 (zig32 o) (.inr (.inr rfl)) (by omega) (by omega) (zig32_lt o h1 h2) (by unfold big; simp)
  have hv := vrV_len 1 (zig32 o)
  have hp := pkV_len 2 cs
  rw [List.nil_append] at c1
  obtain ⟨a2, ha2, c2⟩ := Vars_any B z a1 (vrV 1 (zig32 o)) 2 cs ha1 (by omega) (by omega) hcs (by unfold big at *; omega)
  have c3 := Raw_calls B a2 (vrV 1 (zig32 o) ++ pkV 2 cs) u ha2 (by unfold big at hl; simp [most]; omega)
  have c4 := WString_calls B .me (marB o cs u) (.inl rfl) (by unfold big at hl; simp [marB, most]; omega)
  rcases cs with _ | ⟨c0, cs⟩ <;> (
    refine l_body (X := cx B) (fn := Tryz.f20) Tryz.func20 rfl rfl rfl rfl rfl 0 [] rfl rfl ?_
    refine walk ?_
    refine l_call [] (hm) rfl rfl rfl rfl rfl rfl rfl (by decide) rfl rfl rfl rfl rfl ?_
    cases hc : mayB u d with
    | false =>
      refine walk ?_
      exact l_end trivial (by decide) rfl rfl rfl rfl rfl
    | true =>
      refine walk ?_
      refine l_call [] (Zig32_calls B o h1 h2) rfl rfl rfl rfl rfl rfl rfl (by decide) rfl rfl rfl rfl rfl ?_
      refine l_call [1] (c1) rfl rfl rfl rfl rfl rfl rfl (by decide) rfl (by simp [bo_plain ha1]) rfl rfl rfl ?_
      refine walk ?_
      refine l_call [1] (c2) rfl rfl rfl rfl rfl rfl rfl (by decide) (by simp [bo_plain ha1]) (by simp [bo_plain ha2]) rfl rfl rfl ?_
      refine walk ?_
      refine l_call [1] (c3) rfl rfl rfl rfl rfl rfl rfl (by decide) (by simp [bo_plain ha2]) (by simp [bo_plain (.inl rfl)]) rfl rfl rfl ?_
      refine walk ?_
      refine l_call [1] (c4) rfl rfl rfl rfl rfl rfl rfl (by decide) (by simp [bo_plain (.inl rfl)]) rfl rfl rfl rfl ?_
      refine walk ?_
      exact l_end trivial (by decide) rfl rfl rfl rfl rfl)
theorem MarshalBuckets_calls (o : Int) (cs : List Nat) (u : List UInt8) (d : Int) (h1 : -2147483648 ≤ o) (h2 : o < 2147483648) (hcs : ∀ m ∈ cs, m < 2 ^ 64) (hl : 10 * cs.length + u.length + 100 < big) (hd1 : -9223372036854775808 ≤ d) (hd2 : d < 9223372036854775808) :
    CallsA (cx B) 20 [.d (bkD o cs u), .d (.int .i64 d)] [] (if mayB u d then .tup [sT (marB o cs u), .d .nili] else .tup [sT [], .d (Er.code 8).d]) [] := MarshalZ B _ o cs u d h1 h2 hcs hl hd1 hd2
end Go.Proofs.YtfbckigcelmopaaGreatDoor
