/- Buckets: written as the document tells. No condition. -/
import Derived.Test.YtfbckigcelmopaaGreatDoorY3
import Derived.Test.YtfbckigcelmopaaGreatDoorR6
set_option linter.unusedSimpArgs false
set_option linter.unusedVariables false
set_option maxRecDepth 100000
namespace Go.Proofs.YtfbckigcelmopaaGreatDoor
open Go Go.Abs
variable (B : Fr)
theorem BucketsWrites_law (hB : BOk B) (z : Bool) (o : Int) (cs : List Nat) (u : List UInt8) (ho1 : -2147483648 ≤ o) (ho2 : o < 2147483648) (hcs : ∀ n ∈ cs, n < 2 ^ 64) (hcl : cs.length ≤ 9223372036854775807) (hul : u.length ≤ 9223372036854775807)
    (d : Int) (hd1 : -9223372036854775808 ≤ d) (hd2 : d < 9223372036854775808) :
    CallsA (cx B) 6 [.d (bkZ z o cs u), .d (.int .i64 d)] [] (.d (.bool true)) [] := by
  have hf := first14_calls B hB
  have hr := RoomZ B z o cs u 12000 (by omega) (by omega) hul
  refine l_body (X := cx B) (fn := Tryz.f6) Tryz.func6 rfl rfl rfl rfl rfl 0 [] rfl rfl ?_
  refine walk ?_
  refine l_call [] (hf) rfl rfl rfl rfl rfl rfl rfl (by decide) rfl rfl rfl rfl rfl ?_
  refine walk ?_
  refine l_call [] (hr) rfl rfl rfl rfl rfl rfl rfl (by decide) rfl rfl rfl rfl rfl ?_
  refine walk ?_
  by_cases h1 : roomB cs u 12000 < 0
  · rw [show decide (roomB cs u 12000 < 0) = true from decide_eq_true h1]
    refine walk ?_
    refine l_call [] (hf) rfl rfl rfl rfl rfl rfl rfl (by decide) rfl rfl rfl rfl rfl ?_
    refine walk ?_
    exact l_end trivial (by decide) rfl rfl rfl rfl rfl
  rw [show decide (roomB cs u 12000 < 0) = false from decide_eq_false h1]
  refine walk ?_
  obtain ⟨l1, l2⟩ := room_le h1
  have hbig : 10 * cs.length + u.length + 100 < big := by unfold big; omega
  have hub : u.length < big := by unfold big; omega
  have c1 := rMay_calls B z o cs u d hub hd1 hd2
  have c2 := MarshalZ B z o cs u d ho1 ho2 hcs hbig hd1 hd2
  have c3 := MayBucketsZ B z o cs u d hub hd1 hd2
  have c4 := rBuckets_calls B z o cs u ho1 ho2 hcs hbig
  refine l_call [] (c1) rfl rfl rfl rfl rfl rfl rfl (by decide) rfl rfl rfl rfl rfl ?_
  refine walk ?_
  cases hm : mayB u d with
  | true =>
    rw [hm, if_pos rfl] at c2
    rw [hm] at c3
    have c5 := Size_calls B z o cs u ho1 ho2 hcs hbig (mayB_far (by omega) hm)
    refine l_call [] (c2) rfl rfl rfl rfl rfl rfl rfl (by decide) rfl rfl rfl rfl rfl ?_
    refine walk ?_
    refine l_call [] (c3) rfl rfl rfl rfl rfl rfl rfl (by decide) rfl rfl rfl rfl rfl ?_
    refine walk ?_
    refine l_call [] (hf) rfl rfl rfl rfl rfl rfl rfl (by decide) rfl rfl rfl rfl rfl ?_
    refine walk ?_
    refine l_callG [] (c4) rfl rfl rfl rfl rfl rfl rfl rfl rfl (by decide) rfl rfl rfl rfl rfl ?_
    refine walk ?_
    rw [show (marB o cs u == marB o cs u) = true by simp]
    refine walk ?_
    refine l_callG [] (c5) rfl rfl rfl rfl rfl rfl rfl rfl rfl (by decide) rfl rfl rfl rfl rfl ?_
    refine walk ?_
    rw [show (((marB o cs u).length : Int) == ((marB o cs u).length : Int)) = true by simp]
    refine walk ?_
    exact l_end trivial (by decide) rfl rfl rfl rfl rfl
  | false =>
    rw [hm, if_neg (by simp)] at c2
    rw [hm] at c3
    have c6 := Code_calls B hB (some (Er.code 8))
    refine l_call [] (c2) rfl rfl rfl rfl rfl rfl rfl (by decide) rfl rfl rfl rfl rfl ?_
    refine walk ?_
    refine l_call [] (c3) rfl rfl rfl rfl rfl rfl rfl (by decide) rfl rfl rfl rfl rfl ?_
    refine walk ?_
    refine l_call [] (hf) rfl rfl rfl rfl rfl rfl rfl (by decide) rfl rfl rfl rfl rfl ?_
    refine walk ?_
    refine l_callG [] (c6) rfl rfl rfl rfl rfl rfl rfl rfl rfl (by decide) rfl rfl rfl rfl rfl ?_
    refine walk ?_
    exact l_end trivial (by decide) rfl rfl rfl rfl rfl
end Go.Proofs.YtfbckigcelmopaaGreatDoor
