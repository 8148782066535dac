/- Buckets: read as the document tells. No condition. -/
import Derived.Test.YtfbckigcelmopaaGreatDoorR4
import Derived.Test.YtfbckigcelmopaaGreatDoorR5
set_option linter.unusedSimpArgs false
set_option linter.unusedVariables false
set_option maxRecDepth 100000
namespace Go.Proofs.YtfbckigcelmopaaGreatDoor
open Go Go.Abs
variable (B : Fr)
theorem BucketsReads_law (hB : BOk B) (s : List UInt8) (hs : s.length ≤ 9223372036854775807) (d : Int) (hd1 : -9223372036854775808 ≤ d) (hd2 : d < 9223372036854775808) :
    CallsA (cx B) 4 [sT s, .d (.int .i64 d)] [] (.d (.bool true)) [] := by
  have hf := first14_calls B hB
  refine l_body (X := cx B) (fn := Tryz.f4) Tryz.func4 rfl rfl rfl rfl rfl 0 [] rfl rfl ?_
  refine walk ?_
  refine l_call [] (hf) rfl rfl rfl rfl rfl rfl rfl (by decide) rfl rfl rfl rfl rfl ?_
  refine walk ?_
  by_cases h1 : s.length > 6000
  · rw [show decide ((s.length : Int) > 6000) = true from decide_eq_true (by omega)]
    refine walk ?_
    refine l_call [] (hf) rfl rfl rfl rfl rfl rfl rfl (by decide) rfl rfl rfl rfl rfl ?_
    refine walk ?_
    exact l_end trivial (by decide) rfl rfl rfl rfl rfl
  rw [show decide ((s.length : Int) > 6000) = false from decide_eq_false (by omega)]
  refine walk ?_
  have b1 : s.length < big := by unfold big; omega
  have c2 := ReadBuckets_calls B s d b1 hd1 hd2
  unfold rbT at c2
  cases hx : okB s d with
  | some x =>
    have c1 := UB_some B hB b1 hd1 hd2 hx
    obtain ⟨l1, l2⟩ := okB_len hx
    have c3 := refBuckets_calls B x.off x.cs x.u x.off x.cs x.u (by omega)
    rw [show (x.off == x.off && x.cs == x.cs && x.u == x.u) = true by simp] at c3
    rw [hx] at c2
    dsimp only at c2
    refine l_call [] (c1) rfl rfl rfl rfl rfl rfl rfl (by decide) rfl rfl rfl rfl rfl ?_
    refine walk ?_
    refine l_call [] (c2) rfl rfl rfl rfl rfl rfl rfl (by decide) rfl rfl rfl rfl rfl ?_
    refine walk ?_
    refine l_call [] (hf) rfl rfl rfl rfl rfl rfl rfl (by decide) rfl rfl rfl rfl rfl ?_
    refine walk ?_
    refine l_callG [] (c3) rfl rfl rfl rfl rfl rfl rfl rfl rfl (by decide) rfl rfl rfl rfl rfl ?_
    refine walk ?_
    exact l_end trivial (by decide) rfl rfl rfl rfl rfl
  | none =>
    obtain ⟨e, he⟩ := okB_none hx
    have c1 := UnmarshalBuckets_calls B hB s d b1 hd1 hd2
    rw [he] at c1
    dsimp only at c1
    have c4 := wrong_calls B hB e s.length b1 (ubB_err (by rw [he]))
    have c3 := refBuckets_calls B noBk.off noBk.cs noBk.u noBk.off noBk.cs noBk.u (by decide)
    rw [show (noBk.off == noBk.off && noBk.cs == noBk.cs && noBk.u == noBk.u) = true by rfl] at c3
    rw [hx] at c2
    dsimp only at c2
    rw [show eD (some e) = e.d from rfl] at c1
    obtain ⟨T, y, hy⟩ := er_iface e
    rw [hy] at c1 c4
    refine l_call [] (c1) rfl rfl rfl rfl rfl rfl rfl (by decide) rfl rfl rfl rfl rfl ?_
    refine walk ?_
    refine l_call [] (c2) rfl rfl rfl rfl rfl rfl rfl (by decide) rfl rfl rfl rfl rfl ?_
    refine walk ?_
    refine l_call [] (hf) rfl rfl rfl rfl rfl rfl rfl (by decide) rfl rfl rfl rfl rfl ?_
    refine walk ?_
    refine l_callG [] (c4) rfl rfl rfl rfl rfl rfl rfl rfl rfl (by decide) rfl rfl rfl rfl rfl ?_
    refine walk ?_
    refine l_callG [] (c3) rfl rfl rfl rfl rfl rfl rfl rfl rfl (by decide) rfl rfl rfl rfl rfl ?_
    refine walk ?_
    exact l_end trivial (by decide) rfl rfl rfl rfl rfl
end Go.Proofs.YtfbckigcelmopaaGreatDoor
