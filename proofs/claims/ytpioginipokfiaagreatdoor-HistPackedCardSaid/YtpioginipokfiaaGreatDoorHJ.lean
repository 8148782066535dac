/- Arguments: a slice of numbers. -/
import Derived.Test.YtpioginipokfiaaGreatDoorXN
set_option linter.unusedSimpArgs false
set_option linter.unusedVariables false
set_option maxRecDepth 100000
namespace Go.Proofs.YtpioginipokfiaaGreatDoor
open Go Go.Abs Go.ChangeShapes Go.WideShapes Go.RowKit
theorem open_lu {H : Type} {enc : TypeId × Value → H} {W : World} {base : Nat} {v : Value} {d : DataW H} {p : List MemPlace} (hval : Value.okWide Tryz.prog W .any base 22 v) (h : DataW.Trod enc Tryz.prog W 0 (fun _ => true) true 22 v d p) :
  ∃ (x : List Nat) (z : Bool), (x.length ≤ 9223372036854775807 ∧ ∀ n ∈ x, n < 2 ^ 64) ∧ DR (Fw W) (.sl z (x.map uD)) v := by
 have hu : Tryz.prog.underlying 22 = some (.slice 29) := by kernel_rfl
 obtain ⟨fuel, hf⟩ := h
 have hc : v.cells = #[v] := by
  unfold Value.okWide at hval
  rw [hu] at hval
  have hv : Cell.okWide Tryz.prog W .any base 22 v := hval
  unfold Cell.okWide at hv
  cases v with
  | agg cs => exfalso; have hk : Cell.ok Tryz.prog W .any base 22 (.agg cs) := hv; unfold Cell.ok at hk; rw [hu] at hk; exact hk
  | _ => rfl
 rw [hc] at hf
 obtain ⟨k, z, e, x, a, r, q, l, w⟩ := open_elems hu (show Tryz.prog.cellsOf 29 = 1 by kernel_rfl) (by omega) hf (fun n _ => open_u64 n)
 obtain rfl : v = k := (List.cons.inj a).1
 obtain rfl := u_of r
 exact ⟨e, z, ⟨l, q⟩, w⟩
