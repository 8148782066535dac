/-
  NARROWER THAN 'FOR EVERY INPUT', by the rows' own cells (each row's printed sentence says how): BatchWrites: loops, laid · BatchReads: laid · BatchSame: loops, laid · BatchLarge: laid · BatchJoins: laid.
  DERIVED. THE GIVEN ROWS OF THIS SEAT. 5 by the template 'for every input the law returns true; each argument reads behind the call as it read before'; 0 by the template 'total and deterministic' (their statements: YtcfkbpddmdfbaaaGreatDoorTotals.lean).
  GIVEN WITH THE SEED: the statements are not yours to turn. If you find one false, say at which input.
  Laid BY PROGRAM, IN A SANDBOX (cutbox-rows.mjs): the forced cells as the released guide's own fill.sh prints them over the translation cd281a8a604cd95e… (all of the seat's roots in one cut). By AI agents, Wed Nov 11 2026. No macro, syntax, notation, axiom, sorry.
-/
import Derived.Test.YtcfkbpddmdfbaaaGreatDoorChecked
import GoSem.Claim
import GoSem.ClaimJoined
import GoSem.ClaimMapViews
import Derived.JoinedTies
import Derived.KernelRfl
namespace Go.Proofs.YtcfkbpddmdfbaaaGreatDoor
/- THE CELL 'sum', in the pinned program and in every row, IS THE sha256 OF THE DUMP (.gsa) THAT YtcfkbpddmdfbaaaGreatDoorProg.lean LOADS. Nothing in Lean hashes anything: it is a label: what it is worth is what the hold of that sum in a sandbox is worth. -/
noncomputable def Tryz.pinned : Pinned := { name := "ytcfkbpddmdfbaaagreatdoor", sum := "cd281a8a604cd95ea3999e2c34e6dea9a9c9bef703aee3e11f9835457311161f", checked := Tryz.checked }
namespace Rows
def none {H : Type} : Left H := { results := [], args := [] }

/- WHAT THE LISTED PACKAGE-LEVEL VARIABLES READ AS WHEN THE CALL BEGINS. Each datum BY PROGRAM (the guide's laid-datum.mjs) off the statement by which the dump's own 'gosem.cut.vars' lays the variable. In a bare row this is a premise. The card (YtcfkbpddmdfbaaaGreatDoorCards.lean) ties it to the program's text. -/
def laid_errors_errorType {H : Type} : DataW H := .iface "internal/reflectlite.rtype" (.agg [.ptr (.lit (.string [101, 114, 114, 111, 114]))])

/-- 'hyglaw17.BatchWrites': WHATEVER THE INPUT: true; the input reads as it did. -/
def batchWritesSpec : ChangeSpec := { name := "batchWrites", fn := fun _ => fun
  | [d1, d2] => { results := [.lit (.bool true)], args := [d1, d2] }
  | _ => none }
def batchWritesRow : OpenClaim := { program := "ytcfkbpddmdfbaaagreatdoor", sum := "cd281a8a604cd95ea3999e2c34e6dea9a9c9bef703aee3e11f9835457311161f", func := "hygrometer/hyglaw17.BatchWrites", spec := "batchWrites", inPlace := ["internal/abi.NoEscape", "internal/reflectlite.ValueOf", "(internal/reflectlite.Value).Type", "(internal/reflectlite.Value).IsNil", "internal/reflectlite.TypeOf", "(internal/reflectlite.Value).Elem", "(internal/reflectlite.Value).Set", "internal/bytealg.MakeNoZero"], unfollowed := true, recurses := true, named := ["errors.errorType"], loops := true, apart := false, laid := [("errors.errorType", laid_errors_errorType)] }
def BatchWritesSaid : Prop := batchWritesRow.holds Tryz.pinned (OpenSpec.ofChange batchWritesSpec)

/-- ITS FALSE NEIGHBOUR: 'it returns false'. Refute it at one input. -/
def batchWritesWrong : ChangeSpec := { name := "batchWrites", fn := fun _ => fun
  | [d1, d2] => { results := [.lit (.bool false)], args := [d1, d2] }
  | _ => none }
def BatchWritesWrongFalsely : Prop := batchWritesRow.holds Tryz.pinned (OpenSpec.ofChange batchWritesWrong)

/-- 'hyglaw17.BatchReads': WHATEVER THE INPUT: true; the input reads as it did. -/
def batchReadsSpec : ChangeSpec := { name := "batchReads", fn := fun _ => fun
  | [d] => { results := [.lit (.bool true)], args := [d] }
  | _ => none }
def batchReadsRow : OpenClaim := { program := "ytcfkbpddmdfbaaagreatdoor", sum := "cd281a8a604cd95ea3999e2c34e6dea9a9c9bef703aee3e11f9835457311161f", func := "hygrometer/hyglaw17.BatchReads", spec := "batchReads", inPlace := ["internal/abi.NoEscape", "internal/reflectlite.ValueOf", "(internal/reflectlite.Value).Type", "(internal/reflectlite.Value).IsNil", "internal/reflectlite.TypeOf", "(internal/reflectlite.Value).Elem", "(internal/reflectlite.Value).Set", "internal/bytealg.MakeNoZero"], unfollowed := true, recurses := true, named := ["errors.errorType"], apart := false, laid := [("errors.errorType", laid_errors_errorType)] }
def BatchReadsSaid : Prop := batchReadsRow.holds Tryz.pinned (OpenSpec.ofChange batchReadsSpec)

/-- ITS FALSE NEIGHBOUR: 'it returns false'. Refute it at one input. -/
def batchReadsWrong : ChangeSpec := { name := "batchReads", fn := fun _ => fun
  | [d] => { results := [.lit (.bool false)], args := [d] }
  | _ => none }
def BatchReadsWrongFalsely : Prop := batchReadsRow.holds Tryz.pinned (OpenSpec.ofChange batchReadsWrong)

/-- 'hyglaw17.BatchSame': WHATEVER THE INPUT: true; the input reads as it did. -/
def batchSameSpec : ChangeSpec := { name := "batchSame", fn := fun _ => fun
  | [d1, d2] => { results := [.lit (.bool true)], args := [d1, d2] }
  | _ => none }
def batchSameRow : OpenClaim := { program := "ytcfkbpddmdfbaaagreatdoor", sum := "cd281a8a604cd95ea3999e2c34e6dea9a9c9bef703aee3e11f9835457311161f", func := "hygrometer/hyglaw17.BatchSame", spec := "batchSame", inPlace := ["internal/abi.NoEscape", "internal/reflectlite.ValueOf", "(internal/reflectlite.Value).Type", "(internal/reflectlite.Value).IsNil", "internal/reflectlite.TypeOf", "(internal/reflectlite.Value).Elem", "(internal/reflectlite.Value).Set", "internal/bytealg.MakeNoZero"], unfollowed := true, recurses := true, named := ["errors.errorType"], loops := true, apart := false, laid := [("errors.errorType", laid_errors_errorType)] }
def BatchSameSaid : Prop := batchSameRow.holds Tryz.pinned (OpenSpec.ofChange batchSameSpec)

/-- ITS FALSE NEIGHBOUR: 'it returns false'. Refute it at one input. -/
def batchSameWrong : ChangeSpec := { name := "batchSame", fn := fun _ => fun
  | [d1, d2] => { results := [.lit (.bool false)], args := [d1, d2] }
  | _ => none }
def BatchSameWrongFalsely : Prop := batchSameRow.holds Tryz.pinned (OpenSpec.ofChange batchSameWrong)

/-- 'hyglaw17.BatchLarge': WHATEVER THE INPUT: true; the input reads as it did. -/
def batchLargeSpec : ChangeSpec := { name := "batchLarge", fn := fun _ => fun
  | [d] => { results := [.lit (.bool true)], args := [d] }
  | _ => none }
def batchLargeRow : OpenClaim := { program := "ytcfkbpddmdfbaaagreatdoor", sum := "cd281a8a604cd95ea3999e2c34e6dea9a9c9bef703aee3e11f9835457311161f", func := "hygrometer/hyglaw17.BatchLarge", spec := "batchLarge", inPlace := ["internal/abi.NoEscape", "internal/reflectlite.ValueOf", "(internal/reflectlite.Value).Type", "(internal/reflectlite.Value).IsNil", "internal/reflectlite.TypeOf", "(internal/reflectlite.Value).Elem", "(internal/reflectlite.Value).Set", "internal/bytealg.MakeNoZero"], unfollowed := true, recurses := true, named := ["errors.errorType"], apart := false, laid := [("errors.errorType", laid_errors_errorType)] }
def BatchLargeSaid : Prop := batchLargeRow.holds Tryz.pinned (OpenSpec.ofChange batchLargeSpec)

/-- ITS FALSE NEIGHBOUR: 'it returns false'. Refute it at one input. -/
def batchLargeWrong : ChangeSpec := { name := "batchLarge", fn := fun _ => fun
  | [d] => { results := [.lit (.bool false)], args := [d] }
  | _ => none }
def BatchLargeWrongFalsely : Prop := batchLargeRow.holds Tryz.pinned (OpenSpec.ofChange batchLargeWrong)

/-- 'hyglaw17.BatchJoins': WHATEVER THE INPUT: true; the input reads as it did. -/
def batchJoinsSpec : ChangeSpec := { name := "batchJoins", fn := fun _ => fun
  | [d1, d2] => { results := [.lit (.bool true)], args := [d1, d2] }
  | _ => none }
def batchJoinsRow : OpenClaim := { program := "ytcfkbpddmdfbaaagreatdoor", sum := "cd281a8a604cd95ea3999e2c34e6dea9a9c9bef703aee3e11f9835457311161f", func := "hygrometer/hyglaw17.BatchJoins", spec := "batchJoins", inPlace := ["internal/abi.NoEscape", "internal/reflectlite.ValueOf", "(internal/reflectlite.Value).Type", "(internal/reflectlite.Value).IsNil", "internal/reflectlite.TypeOf", "(internal/reflectlite.Value).Elem", "(internal/reflectlite.Value).Set", "internal/bytealg.MakeNoZero"], unfollowed := true, recurses := true, named := ["errors.errorType"], apart := false, laid := [("errors.errorType", laid_errors_errorType)] }
def BatchJoinsSaid : Prop := batchJoinsRow.holds Tryz.pinned (OpenSpec.ofChange batchJoinsSpec)

/-- ITS FALSE NEIGHBOUR: 'it returns false'. Refute it at one input. -/
def batchJoinsWrong : ChangeSpec := { name := "batchJoins", fn := fun _ => fun
  | [d1, d2] => { results := [.lit (.bool false)], args := [d1, d2] }
  | _ => none }
def BatchJoinsWrongFalsely : Prop := batchJoinsRow.holds Tryz.pinned (OpenSpec.ofChange batchJoinsWrong)

/- THE SECOND FORM. 'bulk': how many values and letters a reading holds, each counted each time it is reached (what is shared counts as often as it is met; a slice's spare places count too). A statement '..UptoSaid' is the law's where the arguments, and the package variables that the reading takes, are together of bulk at most 1048576: NARROWER than '..Said'. Prove '..Said' where nothing that the law and all that it calls make is longer than what came in: it says more and counts as full. Else prove '..UptoSaid'. A law counts once. -/
mutual
def uptoBulk {H : Type} : DataW H → Nat
  | .lit (.string bytes) => bytes.length + 1
  | .lit _ => 1
  | .nil => 1
  | .ptr d => uptoBulk d + 1
  | .slice elems spare => uptoBulkAll elems + uptoBulkAll spare + 1
  | .agg parts => uptoBulkAll parts + 1
  | .iface _ d => uptoBulk d + 1
  | .map entries => uptoBulkEntries entries + 1
  | .held _ => 1
def uptoBulkAll {H : Type} : List (DataW H) → Nat
  | [] => 0
  | d :: r => uptoBulk d + uptoBulkAll r
def uptoBulkEntries {H : Type} : List (Lit × DataW H) → Nat
  | [] => 0
  | x :: r => uptoBulkEntry x + uptoBulkEntries r
def uptoBulkEntry {H : Type} : Lit × DataW H → Nat
  | (.string bytes, d) => bytes.length + uptoBulk d + 1
  | (_, d) => uptoBulk d + 1
 end
def uptoSmall : (H : Type) → List (DataW H) → Bool := fun _ ds => decide (uptoBulkAll ds ≤ 1048576)
def OpenSpec.upto (s : _root_.Go.ChangeSpec) : _root_.Go.OpenSpec := { _root_.Go.OpenSpec.ofChange s with cond := some uptoSmall }

/-- 'hyglaw17.BatchWrites', WHERE WHAT IT READS IS OF BULK AT MOST 1048576: true; the input reads as it did. -/
def batchWritesUptoRow : OpenClaim := { program := "ytcfkbpddmdfbaaagreatdoor", sum := "cd281a8a604cd95ea3999e2c34e6dea9a9c9bef703aee3e11f9835457311161f", func := "hygrometer/hyglaw17.BatchWrites", spec := "batchWrites", inPlace := ["internal/abi.NoEscape", "internal/reflectlite.ValueOf", "(internal/reflectlite.Value).Type", "(internal/reflectlite.Value).IsNil", "internal/reflectlite.TypeOf", "(internal/reflectlite.Value).Elem", "(internal/reflectlite.Value).Set", "internal/bytealg.MakeNoZero"], unfollowed := true, recurses := true, named := ["errors.errorType"], loops := true, apart := false, laid := [("errors.errorType", laid_errors_errorType)], narrowed := true }
def BatchWritesUptoSaid : Prop := batchWritesUptoRow.holds Tryz.pinned (OpenSpec.upto batchWritesSpec)

/-- 'hyglaw17.BatchReads', WHERE WHAT IT READS IS OF BULK AT MOST 1048576: true; the input reads as it did. -/
def batchReadsUptoRow : OpenClaim := { program := "ytcfkbpddmdfbaaagreatdoor", sum := "cd281a8a604cd95ea3999e2c34e6dea9a9c9bef703aee3e11f9835457311161f", func := "hygrometer/hyglaw17.BatchReads", spec := "batchReads", inPlace := ["internal/abi.NoEscape", "internal/reflectlite.ValueOf", "(internal/reflectlite.Value).Type", "(internal/reflectlite.Value).IsNil", "internal/reflectlite.TypeOf", "(internal/reflectlite.Value).Elem", "(internal/reflectlite.Value).Set", "internal/bytealg.MakeNoZero"], unfollowed := true, recurses := true, named := ["errors.errorType"], apart := false, laid := [("errors.errorType", laid_errors_errorType)], narrowed := true }
def BatchReadsUptoSaid : Prop := batchReadsUptoRow.holds Tryz.pinned (OpenSpec.upto batchReadsSpec)

/-- 'hyglaw17.BatchSame', WHERE WHAT IT READS IS OF BULK AT MOST 1048576: true; the input reads as it did. -/
def batchSameUptoRow : OpenClaim := { program := "ytcfkbpddmdfbaaagreatdoor", sum := "cd281a8a604cd95ea3999e2c34e6dea9a9c9bef703aee3e11f9835457311161f", func := "hygrometer/hyglaw17.BatchSame", spec := "batchSame", inPlace := ["internal/abi.NoEscape", "internal/reflectlite.ValueOf", "(internal/reflectlite.Value).Type", "(internal/reflectlite.Value).IsNil", "internal/reflectlite.TypeOf", "(internal/reflectlite.Value).Elem", "(internal/reflectlite.Value).Set", "internal/bytealg.MakeNoZero"], unfollowed := true, recurses := true, named := ["errors.errorType"], loops := true, apart := false, laid := [("errors.errorType", laid_errors_errorType)], narrowed := true }
def BatchSameUptoSaid : Prop := batchSameUptoRow.holds Tryz.pinned (OpenSpec.upto batchSameSpec)

/-- 'hyglaw17.BatchLarge', WHERE WHAT IT READS IS OF BULK AT MOST 1048576: true; the input reads as it did. -/
def batchLargeUptoRow : OpenClaim := { program := "ytcfkbpddmdfbaaagreatdoor", sum := "cd281a8a604cd95ea3999e2c34e6dea9a9c9bef703aee3e11f9835457311161f", func := "hygrometer/hyglaw17.BatchLarge", spec := "batchLarge", inPlace := ["internal/abi.NoEscape", "internal/reflectlite.ValueOf", "(internal/reflectlite.Value).Type", "(internal/reflectlite.Value).IsNil", "internal/reflectlite.TypeOf", "(internal/reflectlite.Value).Elem", "(internal/reflectlite.Value).Set", "internal/bytealg.MakeNoZero"], unfollowed := true, recurses := true, named := ["errors.errorType"], apart := false, laid := [("errors.errorType", laid_errors_errorType)], narrowed := true }
def BatchLargeUptoSaid : Prop := batchLargeUptoRow.holds Tryz.pinned (OpenSpec.upto batchLargeSpec)

/-- 'hyglaw17.BatchJoins', WHERE WHAT IT READS IS OF BULK AT MOST 1048576: true; the input reads as it did. -/
def batchJoinsUptoRow : OpenClaim := { program := "ytcfkbpddmdfbaaagreatdoor", sum := "cd281a8a604cd95ea3999e2c34e6dea9a9c9bef703aee3e11f9835457311161f", func := "hygrometer/hyglaw17.BatchJoins", spec := "batchJoins", inPlace := ["internal/abi.NoEscape", "internal/reflectlite.ValueOf", "(internal/reflectlite.Value).Type", "(internal/reflectlite.Value).IsNil", "internal/reflectlite.TypeOf", "(internal/reflectlite.Value).Elem", "(internal/reflectlite.Value).Set", "internal/bytealg.MakeNoZero"], unfollowed := true, recurses := true, named := ["errors.errorType"], apart := false, laid := [("errors.errorType", laid_errors_errorType)], narrowed := true }
def BatchJoinsUptoSaid : Prop := batchJoinsUptoRow.holds Tryz.pinned (OpenSpec.upto batchJoinsSpec)

end Rows
end Go.Proofs.YtcfkbpddmdfbaaaGreatDoor
