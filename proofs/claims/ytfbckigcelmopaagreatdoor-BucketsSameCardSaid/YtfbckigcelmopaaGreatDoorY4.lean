/- Buckets: alike, as the document tells. No condition. -/
import Derived.Test.YtfbckigcelmopaaGreatDoorY3
set_option linter.unusedSimpArgs false
set_option linter.unusedVariables false
set_option maxRecDepth 100000
namespace Go.Proofs.YtfbckigcelmopaaGreatDoor
open Go Go.Abs
variable (B : Fr)
theorem BucketsSame_law (hB : BOk B) (z : Bool) (o : Int) (cs : List Nat) (u : List UInt8) (ho1 : -2147483648 ≤ o) (ho2 : o < 2147483648) (hcs : ∀ n ∈ cs, n < 2 ^ 64) (hcl : cs.length ≤ 9223372036854775807) (hul : u.length ≤ 9223372036854775807)
    (z' : Bool) (o' : Int) (cs' : List Nat) (u' : List UInt8) (ho1' : -2147483648 ≤ o') (ho2' : o' < 2147483648) (hcs' : ∀ n ∈ cs', n < 2 ^ 64) (hcl' : cs'.length ≤ 9223372036854775807) (hul' : u'.length ≤ 9223372036854775807) :
    CallsA (cx B) 7 [.d (bkZ z o cs u), .d (bkZ z' o' cs' u')] [] (.d (.bool true)) [] := by
  have hf := first14_calls B hB
  have hr := RoomZ B z o cs u 12000 (by omega) (by omega) hul
  have hr' := RoomZ B z' o' cs' u' 12000 (by omega) (by omega) hul'
  refine l_body (X := cx B) (fn := Tryz.f7) Tryz.func7 rfl rfl rfl rfl rfl 0 [] rfl rfl ?_
  refine walk ?_
  refine l_call [] (hf) rfl rfl rfl rfl rfl rfl rfl (by decide) rfl rfl rfl rfl rfl ?_
  refine walk ?_
  refine l_call [] (hr) rfl rfl rfl rfl rfl rfl rfl (by decide) rfl rfl rfl rfl rfl ?_
  refine walk ?_
  by_cases h1 : roomB cs u 12000 < 0
  · rw [show decide (roomB cs u 12000 < 0) = true from decide_eq_true h1]
    refine walk ?_
    refine l_call [] (hf) rfl rfl rfl rfl rfl rfl rfl (by decide) rfl rfl rfl rfl rfl ?_
    refine walk ?_
    exact l_end trivial (by decide) rfl rfl rfl rfl rfl
  rw [show decide (roomB cs u 12000 < 0) = false from decide_eq_false h1]
  refine walk ?_
  refine l_callG [] (hr') rfl rfl rfl rfl rfl rfl rfl rfl rfl (by decide) rfl rfl rfl rfl rfl ?_
  refine walk ?_
  by_cases h2 : roomB cs' u' 12000 < 0
  · rw [show decide (roomB cs' u' 12000 < 0) = true from decide_eq_true h2]
    refine walk ?_
    refine l_call [] (hf) rfl rfl rfl rfl rfl rfl rfl (by decide) rfl rfl rfl rfl rfl ?_
    refine walk ?_
    exact l_end trivial (by decide) rfl rfl rfl rfl rfl
  rw [show decide (roomB cs' u' 12000 < 0) = false from decide_eq_false h2]
  refine walk ?_
  obtain ⟨l1, l2⟩ := room_le h1
  have c1 := SameZ B z z' o cs u o' cs' u' (by omega)
  have c2 := refZ B z z' o cs u o' cs' u' (by omega)
  have c3 := SameZ B z z o cs u o cs u (by omega)
  rw [show (o == o && u == u && cs == cs) = true by simp] at c3
  rw [show (o == o' && cs == cs' && u == u') = (o == o' && u == u' && cs == cs') by cases (o == o') <;> cases (cs == cs') <;> cases (u == u') <;> rfl] at c2
  generalize (o == o' && u == u' && cs == cs') = q at *
  refine x_call [] (hf) rfl rfl rfl rfl rfl rfl (by decide) rfl rfl rfl rfl rfl rfl ?_
  refine walk ?_
  refine x_call [] (c1) rfl rfl rfl rfl rfl rfl (by decide) rfl rfl rfl rfl rfl rfl ?_
  refine walk ?_
  refine x_call [] (c2) rfl rfl rfl rfl rfl rfl (by decide) rfl rfl rfl rfl rfl rfl ?_
  (repeat ((with_reducible refine is_runX ?_); first | refine x_skip rfl rfl ?_ | refine x_pure rfl rfl rfl ?_ | refine x_load rfl rfl rfl rfl rfl rfl ?_))
  rw [show (q == q) = true by simp]
  refine walk ?_
  refine x_call [] (c3) rfl rfl rfl rfl rfl rfl (by decide) rfl rfl rfl rfl rfl rfl ?_
  refine walk ?_
  exact l_end trivial (by decide) rfl rfl rfl rfl rfl
end Go.Proofs.YtfbckigcelmopaaGreatDoor
