/- Buckets: may they be? -/
import Derived.Test.YtfbckigcelmopaaGreatDoorX15
set_option linter.unusedSimpArgs false
set_option linter.unusedVariables false
set_option maxRecDepth 100000
namespace Go.Proofs.YtfbckigcelmopaaGreatDoor
open Go Go.Abs
variable (B : Fr)
def bkZ (z : Bool) (o : Int) (cs : List Nat) (u : List UInt8) : D := .agg [.int .i32 o, .sl z (cs.map uD), .str u]
def bkD (o : Int) (cs : List Nat) (u : List UInt8) : D := .agg [.int .i32 o, slD (cs.map uD), .str u]
def mayB (u : List UInt8) (d : Int) : Bool := decide (d ≥ 0) && restB tbB u d
theorem MayBucketsZ (z : Bool) (o : Int) (cs : List Nat) (u : List UInt8) (d : Int) (hu : u.length < big) (hd1 : -9223372036854775808 ≤ d) (hd2 : d < 9223372036854775808) : CallsA (cx B) 21 [.d (bkZ z o cs u), .d (.int .i64 d)] [] (.d (.bool (mayB u d))) [] := by
  unfold mayB
  refine l_body (X := cx B) (fn := Tryz.f21) Tryz.func21 rfl rfl rfl rfl rfl 0 [] rfl rfl ?_
  refine walk ?_
  cases hc : decide (d ≥ 0) with
  | false =>
    refine walk ?_
    exact l_end trivial (by decide) rfl rfl rfl rfl rfl
  | true =>
    refine walk ?_
    refine l_callG [] (Rest_calls B 28 tbB (takesBuckets_calls B) u d hu hd1 hd2) rfl rfl rfl rfl rfl rfl rfl rfl rfl (by decide) rfl rfl rfl rfl rfl ?_
    refine walk ?_
    exact l_end trivial (by decide) rfl rfl rfl rfl rfl
theorem MayBuckets_calls (o : Int) (cs : List Nat) (u : List UInt8) (d : Int) (hu : u.length < big) (hd1 : -9223372036854775808 ≤ d) (hd2 : d < 9223372036854775808) : CallsA (cx B) 21 [.d (bkD o cs u), .d (.int .i64 d)] [] (.d (.bool (mayB u d))) [] := MayBucketsZ B _ o cs u d hu hd1 hd2
end Go.Proofs.YtfbckigcelmopaaGreatDoor
