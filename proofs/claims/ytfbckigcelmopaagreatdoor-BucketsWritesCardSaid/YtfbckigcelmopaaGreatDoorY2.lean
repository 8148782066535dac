/- Buckets: twice the same. No condition. -/
import Derived.Test.YtfbckigcelmopaaGreatDoorX29
import Derived.Test.YtfbckigcelmopaaGreatDoorPG
set_option linter.unusedSimpArgs false
set_option linter.unusedVariables false
set_option maxRecDepth 100000
namespace Go.Proofs.YtfbckigcelmopaaGreatDoor
open Go Go.Abs
variable (B : Fr)
theorem marB_len (o : Int) (cs : List Nat) (u : List UInt8) : (marB o cs u).length ≤ 40 + 10 * cs.length + u.length := by
  have := vrV_len 1 (zig32 o); have := pkV_len 2 cs
  unfold marB; simp; omega
theorem BucketsTwice_law (hB : BOk B) (s : List UInt8) (hs : s.length ≤ 9223372036854775807) (d : Int) (hd1 : -9223372036854775808 ≤ d) (hd2 : d < 9223372036854775808) :
    CallsA (cx B) 9 [sT s, .d (.int .i64 d)] [] (.d (.bool true)) [] := by
  have hf := first14_calls B hB
  refine l_body (X := cx B) (fn := Tryz.f9) Tryz.func9 rfl rfl rfl rfl rfl 0 [] rfl rfl ?_
  refine walk ?_
  refine l_call [] (hf) rfl rfl rfl rfl rfl rfl rfl (by decide) rfl rfl rfl rfl rfl ?_
  refine walk ?_
  by_cases h1 : s.length > 6000
  · rw [show decide ((s.length : Int) > 6000) = true from decide_eq_true (by omega)]
    refine walk ?_
    refine l_call [] (hf) rfl rfl rfl rfl rfl rfl rfl (by decide) rfl rfl rfl rfl rfl ?_
    refine walk ?_
    exact l_end trivial (by decide) rfl rfl rfl rfl rfl
  rw [show decide ((s.length : Int) > 6000) = false from decide_eq_false (by omega)]
  refine walk ?_
  have b1 : s.length < big := by unfold big; omega
  cases hx : okB s d with
  | none =>
    obtain ⟨T, x, c1⟩ := UB_none B hB b1 hd1 hd2 hx
    have c3 := SameBuckets_calls B noBk.off noBk.cs noBk.u noBk.off noBk.cs noBk.u (by decide)
    rw [show (noBk.off == noBk.off && noBk.u == noBk.u && noBk.cs == noBk.cs) = true by rfl] at c3
    refine l_call [] (c1) rfl rfl rfl rfl rfl rfl rfl (by decide) rfl rfl rfl rfl rfl ?_
    refine walk ?_
    refine l_call [] (hf) rfl rfl rfl rfl rfl rfl rfl (by decide) rfl rfl rfl rfl rfl ?_
    refine walk ?_
    refine l_callG [] (c3) rfl rfl rfl rfl rfl rfl rfl rfl rfl (by decide) rfl rfl rfl rfl rfl ?_
    refine walk ?_
    exact l_end trivial (by decide) rfl rfl rfl rfl rfl
  | some x =>
    have c1 := UB_some B hB b1 hd1 hd2 hx
    obtain ⟨l1, l2⟩ := okB_len hx
    obtain ⟨⟨r1, r2⟩, r3⟩ := okB_rng hx
    have hmay := okB_may hx
    have hml := marB_len x.off x.cs x.u
    have hpl := packV_len x.cs
    have c2 := MarshalBuckets_calls B x.off x.cs x.u d r1 r2 r3 (by unfold big; omega) hd1 hd2
    rw [if_pos hmay] at c2
    have hback := okB_mar hmay r1 r2 r3 (by omega)
    have c3 := UB_some B hB (show (marB x.off x.cs x.u).length < big by unfold big; omega) hd1 hd2 hback
    have c4 := MayBuckets_calls B x.off x.cs x.u d (by unfold big; omega) hd1 hd2
    rw [hmay] at c4
    have c5 := SameBuckets_calls B x.off x.cs x.u x.off x.cs x.u (by omega)
    rw [show (x.off == x.off && x.u == x.u && x.cs == x.cs) = true by simp] at c5
    refine l_call [] (c1) rfl rfl rfl rfl rfl rfl rfl (by decide) rfl rfl rfl rfl rfl ?_
    refine walk ?_
    refine l_call [] (c2) rfl rfl rfl rfl rfl rfl rfl (by decide) rfl rfl rfl rfl rfl ?_
    refine walk ?_
    refine l_call [] (c3) rfl rfl rfl rfl rfl rfl rfl (by decide) rfl rfl rfl rfl rfl ?_
    refine walk ?_
    refine l_call [] (c2) rfl rfl rfl rfl rfl rfl rfl (by decide) rfl rfl rfl rfl rfl ?_
    refine walk ?_
    refine l_call [] (hf) rfl rfl rfl rfl rfl rfl rfl (by decide) rfl rfl rfl rfl rfl ?_
    refine walk ?_
    refine l_callG [] (c4) rfl rfl rfl rfl rfl rfl rfl rfl rfl (by decide) rfl rfl rfl rfl rfl ?_
    refine walk ?_
    refine l_callG [] (c5) rfl rfl rfl rfl rfl rfl rfl rfl rfl (by decide) rfl rfl rfl rfl rfl ?_
    refine walk ?_
    rw [show (marB x.off x.cs x.u == marB x.off x.cs x.u) = true by simp]
    exact l_end trivial (by decide) rfl rfl rfl rfl rfl
end Go.Proofs.YtfbckigcelmopaaGreatDoor
