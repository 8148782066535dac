/- The reference: sides. -/
import Derived.Test.YtcinfkbdmjnjlaaGreatDoorRO
import Derived.Test.YtcinfkbdmjnjlaaGreatDoorSD
set_option linter.unusedSimpArgs false
set_option linter.unusedVariables false
set_option maxRecDepth 100000
namespace Go.Proofs.YtcinfkbdmjnjlaaGreatDoor
open Go Go.Abs
variable (B : Fr)
theorem rside_calls (z : Bool) (n : Nat) (h : Bool) (b : Bk) (h1 : 1 ≤ n) (h2 : n ≤ 536870911) (hb : b.sz < big) (hw : b.wf) : CallsA (cx B) 90 [iT n, .d (.bool h), .d (bkZ z b.off b.cs b.u)] [] (sT (sdV n h b)) [] := by
  cases h with
  | false =>
    refine l_body (X := cx B) (fn := Tryz.f90) Tryz.func90 rfl rfl rfl rfl rfl 0 [] rfl rfl ?_
    refine walk ?_
    exact l_end trivial (by decide) rfl rfl rfl rfl rfl
  | true =>
    have hml : (marB b.off b.cs b.u).length + 20 ≤ b.sz := b.mar_len
    have c1 := rBuckets_calls B z b.off b.cs b.u hw.1.1 hw.1.2 hw.2 (by unfold Bk.sz at hb; unfold big at *; omega)
    have c2 : CallsA (cx B) 145 [iT n, sT (marB b.off b.cs b.u)] [] (sT (sdV n true b)) [] := rBytes_calls B n _ h1 h2 (by omega)
    refine l_body (X := cx B) (fn := Tryz.f90) Tryz.func90 rfl rfl rfl rfl rfl 0 [] rfl rfl ?_
    refine walk ?_
    refine l_call [] (c1) rfl rfl rfl rfl rfl rfl rfl (by decide) rfl rfl rfl rfl rfl ?_
    refine walk ?_
    refine l_call [] (c2) rfl rfl rfl rfl rfl rfl rfl (by decide) rfl rfl rfl rfl rfl ?_
    refine walk ?_
    exact l_end trivial (by decide) rfl rfl rfl rfl rfl
theorem rbare_calls (z : Bool) (b : Bk) : CallsA (cx B) 81 [.d (bkZ z b.off b.cs b.u)] [] (.d (.bool b.isNo)) [] := by
  rw [show b.isNo = (b.off == 0 && (((b.cs.map uD).length : Int) == 0 && b.u == [])) by
    unfold Bk.isNo
    rw [show (((b.cs.map uD).length : Int) == 0) = (b.cs == []) by
      rw [List.length_map]
      cases b.cs with
      | nil => rfl
      | cons c cs => rw [show ((c :: cs) == []) = false from rfl]; simp; omega]
    rw [Bool.and_assoc, Bool.and_comm (b.u == [])]]
  refine l_body (X := cx B) (fn := Tryz.f81) Tryz.func81 rfl rfl rfl rfl rfl 0 [] rfl rfl ?_
  refine walk ?_
  cases e1 : (b.off == 0) with
  | false =>
    refine walk ?_
    exact l_end trivial (by decide) rfl rfl rfl rfl rfl
  | true =>
    refine walk ?_
    cases e2 : (((b.cs.map uD).length : Int) == 0) with
    | false =>
      refine walk ?_
      exact l_end trivial (by decide) rfl rfl rfl rfl rfl
    | true =>
      refine walk ?_
      exact l_end trivial (by decide) rfl rfl rfl rfl rfl
end Go.Proofs.YtcinfkbdmjnjlaaGreatDoor
