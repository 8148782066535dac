/- Buckets read: as they are told by their records. -/
import Derived.Test.YtcinfkbdmjnjlaaGreatDoorXG4
import Derived.Test.YtcinfkbdmjnjlaaGreatDoorPG
set_option linter.unusedSimpArgs false
set_option linter.unusedVariables false
set_option maxRecDepth 100000
namespace Go.Proofs.YtcinfkbdmjnjlaaGreatDoor
open Go Go.Abs
variable (B : Fr)
theorem er_iface (e : Er) : ∃ T x, e.d = .iface T x := by cases e <;> exact ⟨_, _, rfl⟩
theorem UB_some (hB : BOk B) {s : List UInt8} {d : Int} (hl : s.length < big) (hd1 : -9223372036854775808 ≤ d) (hd2 : d < 9223372036854775808) {b : Bk} (h : okB s d = some b) : CallsA (cx B) 37 [sT s, .d (.int .i64 d)] [] (.tup [.d b.d, .d .nili]) [] := by
  have h1 := UnmarshalBuckets_calls B hB s d hl hd1 hd2
  rw [okB_some h] at h1; exact h1
theorem UB_none (hB : BOk B) {s : List UInt8} {d : Int} (hl : s.length < big) (hd1 : -9223372036854775808 ≤ d) (hd2 : d < 9223372036854775808) (h : okB s d = none) : ∃ T x, CallsA (cx B) 37 [sT s, .d (.int .i64 d)] [] (.tup [.d noBk.d, .d (.iface T x)]) [] := by
  have h1 := UnmarshalBuckets_calls B hB s d hl hd1 hd2
  obtain ⟨e, he⟩ := okB_none h
  obtain ⟨T, x, hx⟩ := er_iface e
  rw [he] at h1
  have h2 : eD (some e) = .iface T x := hx
  dsimp only at h1
  rw [h2] at h1
  exact ⟨T, x, h1⟩
end Go.Proofs.YtcinfkbdmjnjlaaGreatDoor
