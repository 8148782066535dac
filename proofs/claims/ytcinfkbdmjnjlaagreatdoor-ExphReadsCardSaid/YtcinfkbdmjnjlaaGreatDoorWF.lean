/- Numbers of eight bytes, one behind the other; what may lack. -/
import Derived.Test.YtcinfkbdmjnjlaaGreatDoorPAB
import Derived.Laws.StructEq
import Derived.ChangeKeysEq
set_option linter.unusedSimpArgs false
set_option linter.unusedVariables false
set_option maxRecDepth 100000
namespace Go.Proofs.YtcinfkbdmjnjlaaGreatDoor
open Go Go.Abs
section
variable (n m : Nat) (cs : List Nat)
end
/-! What may lack. -/
def mayOpt (h : Bool) (n : Nat) : Bool := h || n == 0
theorem opt_of {n v : Nat} {b : Bool} {l : List Fld} (hn : n ≠ 0) (h : sel n l = opF n b v) (hm : mayOpt b v = true) : hasL l n = b ∧ (lastF l n).n = v := by
  have h1 : lastF l n = lastF (opF n b v) n := by rw [← sel_last, h]
  obtain ⟨h2, h3⟩ := tell_op n v b (by unfold mayOpt at hm; cases b with | true => exact .inl rfl | false => right; simpa using hm)
  unfold hasL
  rw [h1, h3]
  refine ⟨?_, rfl⟩
  cases b with
  | false =>
    have : lastF (opF n false v) n = noFld := rfl
    rw [this]
    show (0 == n) = false
    simp; omega
  | true =>
    have : lastF (opF n true v) n = e8R n v := last_one n _ rfl
    rw [this]
    show (n == n) = true
    simp
theorem opt_told {n : Nat} {l : List Fld} : mayOpt (hasL l n) (lastF l n).n = true := by
  unfold mayOpt hasL
  cases ha : anyL l n with
  | true => obtain ⟨h1, h2⟩ := lastF_num ha; rw [h1]; simp
  | false => rw [lastF_no ha]; simp [noFld]
variable (B : Fr)
/-! Written. -/
/-! What may lack: may they be, are two alike. -/
theorem refOpt_calls (a : Bool) (m : Nat) (b : Bool) (n : Nat) : CallsA (cx B) 47 [.d (.agg [.bool a, .int .u64 m]), .d (.agg [.bool b, .int .u64 n])] [] (.d (.bool (a == b && m == n))) [] := by
  refine l_body (X := cx B) (fn := Tryz.f47) Tryz.func47 rfl rfl rfl rfl rfl 0 [] rfl rfl ?_
  refine walk ?_
  cases e : (a == b) with
  | false =>
    refine walk ?_
    exact l_end trivial (by decide) rfl rfl rfl rfl rfl
  | true =>
    refine walk ?_
    rw [ibeq]
    exact l_end trivial (by decide) rfl rfl rfl rfl rfl
end Go.Proofs.YtcinfkbdmjnjlaaGreatDoor
