/- The reference: how much room values and attributes take. -/
import Derived.Test.YtpioginipokfiaaGreatDoorPAB
set_option linter.unusedSimpArgs false
set_option linter.unusedVariables false
set_option maxRecDepth 100000
namespace Go.Proofs.YtpioginipokfiaaGreatDoor
open Go Go.Abs
/-! No list and no text is longer than a list can be. -/
theorem Vl.Rs_at {l : List Vl} {xs : List D} (h : Vl.Rs l xs) {i : Nat} {x : D} (hx : xs[i]? = some x) : ∃ v, l[i]? = some v ∧ v.R x := by
 have hi : i < l.length := by rw [← Vl.Rs_len h]; exact (List.getElem?_eq_some_iff.1 hx).1
 obtain ⟨v, hv⟩ : ∃ v, l[i]? = some v := ⟨_, List.getElem?_eq_getElem hi⟩
 obtain ⟨x', e1, r1⟩ := Vl.Rs_get h hv
 rw [hx] at e1; injection e1 with e1; subst e1
 exact ⟨v, hv, r1⟩
variable (B : Fr)
