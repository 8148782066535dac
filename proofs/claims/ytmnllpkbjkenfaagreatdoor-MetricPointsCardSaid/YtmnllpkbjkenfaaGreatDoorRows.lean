/-
  NARROWER THAN 'FOR EVERY INPUT', by the rows' own cells (each row's printed sentence says how): MetricJoins: laid · MetricPoints: loops, laid · MetricReads: laid · MetricDeep: laid · MetricWrites: loops, laid · MetricSame: loops, laid · MetricBack: loops, laid · MetricTwice: laid · MetricOthers: laid.
  DERIVED. THE GIVEN ROWS OF THIS SEAT. 9 by the template 'for every input the law returns true; each argument reads behind the call as it read before'; 0 by the template 'total and deterministic' (their statements: YtmnllpkbjkenfaaGreatDoorTotals.lean).
  GIVEN WITH THE SEED: the statements are not yours to turn. If you find one false, say at which input.
  Laid BY PROGRAM, IN A SANDBOX (cutbox-rows.mjs): the forced cells as the released guide's own fill.sh prints them over the translation 14f2741b42431a72… (all of the seat's roots in one cut). By AI agents, Wed Nov 11 2026. No macro, syntax, notation, axiom, sorry.
-/
import Derived.Test.YtmnllpkbjkenfaaGreatDoorChecked
import GoSem.Claim
import GoSem.ClaimJoined
import GoSem.ClaimMapViews
import Derived.JoinedTies
import Derived.KernelRfl
namespace Go.Proofs.YtmnllpkbjkenfaaGreatDoor
/- THE CELL 'sum', in the pinned program and in every row, IS THE sha256 OF THE DUMP (.gsa) THAT YtmnllpkbjkenfaaGreatDoorProg.lean LOADS. Nothing in Lean hashes anything: it is a label: what it is worth is what the hold of that sum in a sandbox is worth. -/
noncomputable def Tryz.pinned : Pinned := { name := "ytmnllpkbjkenfaagreatdoor", sum := "14f2741b42431a720756abed4fa3667e9255253b5b89ad277e00259056a38259", checked := Tryz.checked }
namespace Rows
def none {H : Type} : Left H := { results := [], args := [] }

/- WHAT THE LISTED PACKAGE-LEVEL VARIABLES READ AS WHEN THE CALL BEGINS. Each datum BY PROGRAM (the guide's laid-datum.mjs) off the statement by which the dump's own 'gosem.cut.vars' lays the variable. In a bare row this is a premise. The card (YtmnllpkbjkenfaaGreatDoorCards.lean) ties it to the program's text. -/
def laid_errors_errorType {H : Type} : DataW H := .iface "internal/reflectlite.rtype" (.agg [.ptr (.lit (.string [101, 114, 114, 111, 114]))])

/-- 'hyglaw16.MetricJoins': WHATEVER THE INPUT: true; the input reads as it did. -/
def metricJoinsSpec : ChangeSpec := { name := "metricJoins", fn := fun _ => fun
  | [d1, d2, d3] => { results := [.lit (.bool true)], args := [d1, d2, d3] }
  | _ => none }
def metricJoinsRow : OpenClaim := { program := "ytmnllpkbjkenfaagreatdoor", sum := "14f2741b42431a720756abed4fa3667e9255253b5b89ad277e00259056a38259", func := "hygrometer/hyglaw16.MetricJoins", spec := "metricJoins", inPlace := ["internal/abi.NoEscape", "internal/reflectlite.ValueOf", "(internal/reflectlite.Value).Type", "(internal/reflectlite.Value).IsNil", "internal/reflectlite.TypeOf", "(internal/reflectlite.Value).Elem", "(internal/reflectlite.Value).Set", "internal/bytealg.MakeNoZero"], unfollowed := true, recurses := true, named := ["errors.errorType"], apart := false, laid := [("errors.errorType", laid_errors_errorType)] }
def MetricJoinsSaid : Prop := metricJoinsRow.holds Tryz.pinned (OpenSpec.ofChange metricJoinsSpec)

/-- ITS FALSE NEIGHBOUR: 'it returns false'. Refute it at one input. -/
def metricJoinsWrong : ChangeSpec := { name := "metricJoins", fn := fun _ => fun
  | [d1, d2, d3] => { results := [.lit (.bool false)], args := [d1, d2, d3] }
  | _ => none }
def MetricJoinsWrongFalsely : Prop := metricJoinsRow.holds Tryz.pinned (OpenSpec.ofChange metricJoinsWrong)

/-- 'hyglaw16.MetricPoints': WHATEVER THE INPUT: true; the input reads as it did. -/
def metricPointsSpec : ChangeSpec := { name := "metricPoints", fn := fun _ => fun
  | [d1, d2, d3] => { results := [.lit (.bool true)], args := [d1, d2, d3] }
  | _ => none }
def metricPointsRow : OpenClaim := { program := "ytmnllpkbjkenfaagreatdoor", sum := "14f2741b42431a720756abed4fa3667e9255253b5b89ad277e00259056a38259", func := "hygrometer/hyglaw16.MetricPoints", spec := "metricPoints", inPlace := ["internal/abi.NoEscape", "internal/reflectlite.ValueOf", "(internal/reflectlite.Value).Type", "(internal/reflectlite.Value).IsNil", "internal/reflectlite.TypeOf", "(internal/reflectlite.Value).Elem", "(internal/reflectlite.Value).Set", "internal/bytealg.MakeNoZero"], unfollowed := true, recurses := true, named := ["errors.errorType"], loops := true, apart := false, laid := [("errors.errorType", laid_errors_errorType)] }
def MetricPointsSaid : Prop := metricPointsRow.holds Tryz.pinned (OpenSpec.ofChange metricPointsSpec)

/-- ITS FALSE NEIGHBOUR: 'it returns false'. Refute it at one input. -/
def metricPointsWrong : ChangeSpec := { name := "metricPoints", fn := fun _ => fun
  | [d1, d2, d3] => { results := [.lit (.bool false)], args := [d1, d2, d3] }
  | _ => none }
def MetricPointsWrongFalsely : Prop := metricPointsRow.holds Tryz.pinned (OpenSpec.ofChange metricPointsWrong)

/-- 'hyglaw16.MetricReads': WHATEVER THE INPUT: true; the input reads as it did. -/
def metricReadsSpec : ChangeSpec := { name := "metricReads", fn := fun _ => fun
  | [d1, d2] => { results := [.lit (.bool true)], args := [d1, d2] }
  | _ => none }
def metricReadsRow : OpenClaim := { program := "ytmnllpkbjkenfaagreatdoor", sum := "14f2741b42431a720756abed4fa3667e9255253b5b89ad277e00259056a38259", func := "hygrometer/hyglaw16.MetricReads", spec := "metricReads", inPlace := ["internal/abi.NoEscape", "internal/reflectlite.ValueOf", "(internal/reflectlite.Value).Type", "(internal/reflectlite.Value).IsNil", "internal/reflectlite.TypeOf", "(internal/reflectlite.Value).Elem", "(internal/reflectlite.Value).Set", "internal/bytealg.MakeNoZero"], unfollowed := true, recurses := true, named := ["errors.errorType"], apart := false, laid := [("errors.errorType", laid_errors_errorType)] }
def MetricReadsSaid : Prop := metricReadsRow.holds Tryz.pinned (OpenSpec.ofChange metricReadsSpec)

/-- ITS FALSE NEIGHBOUR: 'it returns false'. Refute it at one input. -/
def metricReadsWrong : ChangeSpec := { name := "metricReads", fn := fun _ => fun
  | [d1, d2] => { results := [.lit (.bool false)], args := [d1, d2] }
  | _ => none }
def MetricReadsWrongFalsely : Prop := metricReadsRow.holds Tryz.pinned (OpenSpec.ofChange metricReadsWrong)

/-- 'hyglaw16.MetricDeep': WHATEVER THE INPUT: true; the input reads as it did. -/
def metricDeepSpec : ChangeSpec := { name := "metricDeep", fn := fun _ => fun
  | [d1, d2] => { results := [.lit (.bool true)], args := [d1, d2] }
  | _ => none }
def metricDeepRow : OpenClaim := { program := "ytmnllpkbjkenfaagreatdoor", sum := "14f2741b42431a720756abed4fa3667e9255253b5b89ad277e00259056a38259", func := "hygrometer/hyglaw16.MetricDeep", spec := "metricDeep", inPlace := ["internal/abi.NoEscape", "internal/reflectlite.ValueOf", "(internal/reflectlite.Value).Type", "(internal/reflectlite.Value).IsNil", "internal/reflectlite.TypeOf", "(internal/reflectlite.Value).Elem", "(internal/reflectlite.Value).Set", "internal/bytealg.MakeNoZero"], unfollowed := true, recurses := true, named := ["errors.errorType"], apart := false, laid := [("errors.errorType", laid_errors_errorType)] }
def MetricDeepSaid : Prop := metricDeepRow.holds Tryz.pinned (OpenSpec.ofChange metricDeepSpec)

/-- ITS FALSE NEIGHBOUR: 'it returns false'. Refute it at one input. -/
def metricDeepWrong : ChangeSpec := { name := "metricDeep", fn := fun _ => fun
  | [d1, d2] => { results := [.lit (.bool false)], args := [d1, d2] }
  | _ => none }
def MetricDeepWrongFalsely : Prop := metricDeepRow.holds Tryz.pinned (OpenSpec.ofChange metricDeepWrong)

/-- 'hyglaw16.MetricWrites': WHATEVER THE INPUT: true; the input reads as it did. -/
def metricWritesSpec : ChangeSpec := { name := "metricWrites", fn := fun _ => fun
  | [d1, d2] => { results := [.lit (.bool true)], args := [d1, d2] }
  | _ => none }
def metricWritesRow : OpenClaim := { program := "ytmnllpkbjkenfaagreatdoor", sum := "14f2741b42431a720756abed4fa3667e9255253b5b89ad277e00259056a38259", func := "hygrometer/hyglaw16.MetricWrites", spec := "metricWrites", inPlace := ["internal/abi.NoEscape", "internal/reflectlite.ValueOf", "(internal/reflectlite.Value).Type", "(internal/reflectlite.Value).IsNil", "internal/reflectlite.TypeOf", "(internal/reflectlite.Value).Elem", "(internal/reflectlite.Value).Set", "internal/bytealg.MakeNoZero"], unfollowed := true, recurses := true, named := ["errors.errorType"], loops := true, apart := false, laid := [("errors.errorType", laid_errors_errorType)] }
def MetricWritesSaid : Prop := metricWritesRow.holds Tryz.pinned (OpenSpec.ofChange metricWritesSpec)

/-- ITS FALSE NEIGHBOUR: 'it returns false'. Refute it at one input. -/
def metricWritesWrong : ChangeSpec := { name := "metricWrites", fn := fun _ => fun
  | [d1, d2] => { results := [.lit (.bool false)], args := [d1, d2] }
  | _ => none }
def MetricWritesWrongFalsely : Prop := metricWritesRow.holds Tryz.pinned (OpenSpec.ofChange metricWritesWrong)

/-- 'hyglaw16.MetricSame': WHATEVER THE INPUT: true; the input reads as it did. -/
def metricSameSpec : ChangeSpec := { name := "metricSame", fn := fun _ => fun
  | [d1, d2] => { results := [.lit (.bool true)], args := [d1, d2] }
  | _ => none }
def metricSameRow : OpenClaim := { program := "ytmnllpkbjkenfaagreatdoor", sum := "14f2741b42431a720756abed4fa3667e9255253b5b89ad277e00259056a38259", func := "hygrometer/hyglaw16.MetricSame", spec := "metricSame", inPlace := ["internal/abi.NoEscape", "internal/reflectlite.ValueOf", "(internal/reflectlite.Value).Type", "(internal/reflectlite.Value).IsNil", "internal/reflectlite.TypeOf", "(internal/reflectlite.Value).Elem", "(internal/reflectlite.Value).Set", "internal/bytealg.MakeNoZero"], unfollowed := true, recurses := true, named := ["errors.errorType"], loops := true, apart := false, laid := [("errors.errorType", laid_errors_errorType)] }
def MetricSameSaid : Prop := metricSameRow.holds Tryz.pinned (OpenSpec.ofChange metricSameSpec)

/-- ITS FALSE NEIGHBOUR: 'it returns false'. Refute it at one input. -/
def metricSameWrong : ChangeSpec := { name := "metricSame", fn := fun _ => fun
  | [d1, d2] => { results := [.lit (.bool false)], args := [d1, d2] }
  | _ => none }
def MetricSameWrongFalsely : Prop := metricSameRow.holds Tryz.pinned (OpenSpec.ofChange metricSameWrong)

/-- 'hyglaw16.MetricBack': WHATEVER THE INPUT: true; the input reads as it did. -/
def metricBackSpec : ChangeSpec := { name := "metricBack", fn := fun _ => fun
  | [d1, d2, d3] => { results := [.lit (.bool true)], args := [d1, d2, d3] }
  | _ => none }
def metricBackRow : OpenClaim := { program := "ytmnllpkbjkenfaagreatdoor", sum := "14f2741b42431a720756abed4fa3667e9255253b5b89ad277e00259056a38259", func := "hygrometer/hyglaw16.MetricBack", spec := "metricBack", inPlace := ["internal/abi.NoEscape", "internal/reflectlite.ValueOf", "(internal/reflectlite.Value).Type", "(internal/reflectlite.Value).IsNil", "internal/reflectlite.TypeOf", "(internal/reflectlite.Value).Elem", "(internal/reflectlite.Value).Set", "internal/bytealg.MakeNoZero"], unfollowed := true, recurses := true, named := ["errors.errorType"], loops := true, apart := false, laid := [("errors.errorType", laid_errors_errorType)] }
def MetricBackSaid : Prop := metricBackRow.holds Tryz.pinned (OpenSpec.ofChange metricBackSpec)

/-- ITS FALSE NEIGHBOUR: 'it returns false'. Refute it at one input. -/
def metricBackWrong : ChangeSpec := { name := "metricBack", fn := fun _ => fun
  | [d1, d2, d3] => { results := [.lit (.bool false)], args := [d1, d2, d3] }
  | _ => none }
def MetricBackWrongFalsely : Prop := metricBackRow.holds Tryz.pinned (OpenSpec.ofChange metricBackWrong)

/-- 'hyglaw16.MetricTwice': WHATEVER THE INPUT: true; the input reads as it did. -/
def metricTwiceSpec : ChangeSpec := { name := "metricTwice", fn := fun _ => fun
  | [d1, d2] => { results := [.lit (.bool true)], args := [d1, d2] }
  | _ => none }
def metricTwiceRow : OpenClaim := { program := "ytmnllpkbjkenfaagreatdoor", sum := "14f2741b42431a720756abed4fa3667e9255253b5b89ad277e00259056a38259", func := "hygrometer/hyglaw16.MetricTwice", spec := "metricTwice", inPlace := ["internal/abi.NoEscape", "internal/reflectlite.ValueOf", "(internal/reflectlite.Value).Type", "(internal/reflectlite.Value).IsNil", "internal/reflectlite.TypeOf", "(internal/reflectlite.Value).Elem", "(internal/reflectlite.Value).Set", "internal/bytealg.MakeNoZero"], unfollowed := true, recurses := true, named := ["errors.errorType"], apart := false, laid := [("errors.errorType", laid_errors_errorType)] }
def MetricTwiceSaid : Prop := metricTwiceRow.holds Tryz.pinned (OpenSpec.ofChange metricTwiceSpec)

/-- ITS FALSE NEIGHBOUR: 'it returns false'. Refute it at one input. -/
def metricTwiceWrong : ChangeSpec := { name := "metricTwice", fn := fun _ => fun
  | [d1, d2] => { results := [.lit (.bool false)], args := [d1, d2] }
  | _ => none }
def MetricTwiceWrongFalsely : Prop := metricTwiceRow.holds Tryz.pinned (OpenSpec.ofChange metricTwiceWrong)

/-- 'hyglaw16.MetricOthers': WHATEVER THE INPUT: true; the input reads as it did. -/
def metricOthersSpec : ChangeSpec := { name := "metricOthers", fn := fun _ => fun
  | [d1, d2, d3, d4] => { results := [.lit (.bool true)], args := [d1, d2, d3, d4] }
  | _ => none }
def metricOthersRow : OpenClaim := { program := "ytmnllpkbjkenfaagreatdoor", sum := "14f2741b42431a720756abed4fa3667e9255253b5b89ad277e00259056a38259", func := "hygrometer/hyglaw16.MetricOthers", spec := "metricOthers", inPlace := ["internal/abi.NoEscape", "internal/reflectlite.ValueOf", "(internal/reflectlite.Value).Type", "(internal/reflectlite.Value).IsNil", "internal/reflectlite.TypeOf", "(internal/reflectlite.Value).Elem", "(internal/reflectlite.Value).Set", "internal/bytealg.MakeNoZero"], unfollowed := true, recurses := true, named := ["errors.errorType"], apart := false, laid := [("errors.errorType", laid_errors_errorType)] }
def MetricOthersSaid : Prop := metricOthersRow.holds Tryz.pinned (OpenSpec.ofChange metricOthersSpec)

/-- ITS FALSE NEIGHBOUR: 'it returns false'. Refute it at one input. -/
def metricOthersWrong : ChangeSpec := { name := "metricOthers", fn := fun _ => fun
  | [d1, d2, d3, d4] => { results := [.lit (.bool false)], args := [d1, d2, d3, d4] }
  | _ => none }
def MetricOthersWrongFalsely : Prop := metricOthersRow.holds Tryz.pinned (OpenSpec.ofChange metricOthersWrong)

/- THE SECOND FORM. 'bulk': how many values and letters a reading holds, each counted each time it is reached (what is shared counts as often as it is met; a slice's spare places count too). A statement '..UptoSaid' is the law's where the arguments, and the package variables that the reading takes, are together of bulk at most 1048576: NARROWER than '..Said'. Prove '..Said' where nothing that the law and all that it calls make is longer than what came in: it says more and counts as full. Else prove '..UptoSaid'. A law counts once. -/
mutual
def uptoBulk {H : Type} : DataW H → Nat
  | .lit (.string bytes) => bytes.length + 1
  | .lit _ => 1
  | .nil => 1
  | .ptr d => uptoBulk d + 1
  | .slice elems spare => uptoBulkAll elems + uptoBulkAll spare + 1
  | .agg parts => uptoBulkAll parts + 1
  | .iface _ d => uptoBulk d + 1
  | .map entries => uptoBulkEntries entries + 1
  | .held _ => 1
def uptoBulkAll {H : Type} : List (DataW H) → Nat
  | [] => 0
  | d :: r => uptoBulk d + uptoBulkAll r
def uptoBulkEntries {H : Type} : List (Lit × DataW H) → Nat
  | [] => 0
  | x :: r => uptoBulkEntry x + uptoBulkEntries r
def uptoBulkEntry {H : Type} : Lit × DataW H → Nat
  | (.string bytes, d) => bytes.length + uptoBulk d + 1
  | (_, d) => uptoBulk d + 1
 end
def uptoSmall : (H : Type) → List (DataW H) → Bool := fun _ ds => decide (uptoBulkAll ds ≤ 1048576)
def OpenSpec.upto (s : _root_.Go.ChangeSpec) : _root_.Go.OpenSpec := { _root_.Go.OpenSpec.ofChange s with cond := some uptoSmall }

/-- 'hyglaw16.MetricJoins', WHERE WHAT IT READS IS OF BULK AT MOST 1048576: true; the input reads as it did. -/
def metricJoinsUptoRow : OpenClaim := { program := "ytmnllpkbjkenfaagreatdoor", sum := "14f2741b42431a720756abed4fa3667e9255253b5b89ad277e00259056a38259", func := "hygrometer/hyglaw16.MetricJoins", spec := "metricJoins", inPlace := ["internal/abi.NoEscape", "internal/reflectlite.ValueOf", "(internal/reflectlite.Value).Type", "(internal/reflectlite.Value).IsNil", "internal/reflectlite.TypeOf", "(internal/reflectlite.Value).Elem", "(internal/reflectlite.Value).Set", "internal/bytealg.MakeNoZero"], unfollowed := true, recurses := true, named := ["errors.errorType"], apart := false, laid := [("errors.errorType", laid_errors_errorType)], narrowed := true }
def MetricJoinsUptoSaid : Prop := metricJoinsUptoRow.holds Tryz.pinned (OpenSpec.upto metricJoinsSpec)

/-- 'hyglaw16.MetricPoints', WHERE WHAT IT READS IS OF BULK AT MOST 1048576: true; the input reads as it did. -/
def metricPointsUptoRow : OpenClaim := { program := "ytmnllpkbjkenfaagreatdoor", sum := "14f2741b42431a720756abed4fa3667e9255253b5b89ad277e00259056a38259", func := "hygrometer/hyglaw16.MetricPoints", spec := "metricPoints", inPlace := ["internal/abi.NoEscape", "internal/reflectlite.ValueOf", "(internal/reflectlite.Value).Type", "(internal/reflectlite.Value).IsNil", "internal/reflectlite.TypeOf", "(internal/reflectlite.Value).Elem", "(internal/reflectlite.Value).Set", "internal/bytealg.MakeNoZero"], unfollowed := true, recurses := true, named := ["errors.errorType"], loops := true, apart := false, laid := [("errors.errorType", laid_errors_errorType)], narrowed := true }
def MetricPointsUptoSaid : Prop := metricPointsUptoRow.holds Tryz.pinned (OpenSpec.upto metricPointsSpec)

/-- 'hyglaw16.MetricReads', WHERE WHAT IT READS IS OF BULK AT MOST 1048576: true; the input reads as it did. -/
def metricReadsUptoRow : OpenClaim := { program := "ytmnllpkbjkenfaagreatdoor", sum := "14f2741b42431a720756abed4fa3667e9255253b5b89ad277e00259056a38259", func := "hygrometer/hyglaw16.MetricReads", spec := "metricReads", inPlace := ["internal/abi.NoEscape", "internal/reflectlite.ValueOf", "(internal/reflectlite.Value).Type", "(internal/reflectlite.Value).IsNil", "internal/reflectlite.TypeOf", "(internal/reflectlite.Value).Elem", "(internal/reflectlite.Value).Set", "internal/bytealg.MakeNoZero"], unfollowed := true, recurses := true, named := ["errors.errorType"], apart := false, laid := [("errors.errorType", laid_errors_errorType)], narrowed := true }
def MetricReadsUptoSaid : Prop := metricReadsUptoRow.holds Tryz.pinned (OpenSpec.upto metricReadsSpec)

/-- 'hyglaw16.MetricDeep', WHERE WHAT IT READS IS OF BULK AT MOST 1048576: true; the input reads as it did. -/
def metricDeepUptoRow : OpenClaim := { program := "ytmnllpkbjkenfaagreatdoor", sum := "14f2741b42431a720756abed4fa3667e9255253b5b89ad277e00259056a38259", func := "hygrometer/hyglaw16.MetricDeep", spec := "metricDeep", inPlace := ["internal/abi.NoEscape", "internal/reflectlite.ValueOf", "(internal/reflectlite.Value).Type", "(internal/reflectlite.Value).IsNil", "internal/reflectlite.TypeOf", "(internal/reflectlite.Value).Elem", "(internal/reflectlite.Value).Set", "internal/bytealg.MakeNoZero"], unfollowed := true, recurses := true, named := ["errors.errorType"], apart := false, laid := [("errors.errorType", laid_errors_errorType)], narrowed := true }
def MetricDeepUptoSaid : Prop := metricDeepUptoRow.holds Tryz.pinned (OpenSpec.upto metricDeepSpec)

/-- 'hyglaw16.MetricWrites', WHERE WHAT IT READS IS OF BULK AT MOST 1048576: true; the input reads as it did. -/
def metricWritesUptoRow : OpenClaim := { program := "ytmnllpkbjkenfaagreatdoor", sum := "14f2741b42431a720756abed4fa3667e9255253b5b89ad277e00259056a38259", func := "hygrometer/hyglaw16.MetricWrites", spec := "metricWrites", inPlace := ["internal/abi.NoEscape", "internal/reflectlite.ValueOf", "(internal/reflectlite.Value).Type", "(internal/reflectlite.Value).IsNil", "internal/reflectlite.TypeOf", "(internal/reflectlite.Value).Elem", "(internal/reflectlite.Value).Set", "internal/bytealg.MakeNoZero"], unfollowed := true, recurses := true, named := ["errors.errorType"], loops := true, apart := false, laid := [("errors.errorType", laid_errors_errorType)], narrowed := true }
def MetricWritesUptoSaid : Prop := metricWritesUptoRow.holds Tryz.pinned (OpenSpec.upto metricWritesSpec)

/-- 'hyglaw16.MetricSame', WHERE WHAT IT READS IS OF BULK AT MOST 1048576: true; the input reads as it did. -/
def metricSameUptoRow : OpenClaim := { program := "ytmnllpkbjkenfaagreatdoor", sum := "14f2741b42431a720756abed4fa3667e9255253b5b89ad277e00259056a38259", func := "hygrometer/hyglaw16.MetricSame", spec := "metricSame", inPlace := ["internal/abi.NoEscape", "internal/reflectlite.ValueOf", "(internal/reflectlite.Value).Type", "(internal/reflectlite.Value).IsNil", "internal/reflectlite.TypeOf", "(internal/reflectlite.Value).Elem", "(internal/reflectlite.Value).Set", "internal/bytealg.MakeNoZero"], unfollowed := true, recurses := true, named := ["errors.errorType"], loops := true, apart := false, laid := [("errors.errorType", laid_errors_errorType)], narrowed := true }
def MetricSameUptoSaid : Prop := metricSameUptoRow.holds Tryz.pinned (OpenSpec.upto metricSameSpec)

/-- 'hyglaw16.MetricBack', WHERE WHAT IT READS IS OF BULK AT MOST 1048576: true; the input reads as it did. -/
def metricBackUptoRow : OpenClaim := { program := "ytmnllpkbjkenfaagreatdoor", sum := "14f2741b42431a720756abed4fa3667e9255253b5b89ad277e00259056a38259", func := "hygrometer/hyglaw16.MetricBack", spec := "metricBack", inPlace := ["internal/abi.NoEscape", "internal/reflectlite.ValueOf", "(internal/reflectlite.Value).Type", "(internal/reflectlite.Value).IsNil", "internal/reflectlite.TypeOf", "(internal/reflectlite.Value).Elem", "(internal/reflectlite.Value).Set", "internal/bytealg.MakeNoZero"], unfollowed := true, recurses := true, named := ["errors.errorType"], loops := true, apart := false, laid := [("errors.errorType", laid_errors_errorType)], narrowed := true }
def MetricBackUptoSaid : Prop := metricBackUptoRow.holds Tryz.pinned (OpenSpec.upto metricBackSpec)

/-- 'hyglaw16.MetricTwice', WHERE WHAT IT READS IS OF BULK AT MOST 1048576: true; the input reads as it did. -/
def metricTwiceUptoRow : OpenClaim := { program := "ytmnllpkbjkenfaagreatdoor", sum := "14f2741b42431a720756abed4fa3667e9255253b5b89ad277e00259056a38259", func := "hygrometer/hyglaw16.MetricTwice", spec := "metricTwice", inPlace := ["internal/abi.NoEscape", "internal/reflectlite.ValueOf", "(internal/reflectlite.Value).Type", "(internal/reflectlite.Value).IsNil", "internal/reflectlite.TypeOf", "(internal/reflectlite.Value).Elem", "(internal/reflectlite.Value).Set", "internal/bytealg.MakeNoZero"], unfollowed := true, recurses := true, named := ["errors.errorType"], apart := false, laid := [("errors.errorType", laid_errors_errorType)], narrowed := true }
def MetricTwiceUptoSaid : Prop := metricTwiceUptoRow.holds Tryz.pinned (OpenSpec.upto metricTwiceSpec)

/-- 'hyglaw16.MetricOthers', WHERE WHAT IT READS IS OF BULK AT MOST 1048576: true; the input reads as it did. -/
def metricOthersUptoRow : OpenClaim := { program := "ytmnllpkbjkenfaagreatdoor", sum := "14f2741b42431a720756abed4fa3667e9255253b5b89ad277e00259056a38259", func := "hygrometer/hyglaw16.MetricOthers", spec := "metricOthers", inPlace := ["internal/abi.NoEscape", "internal/reflectlite.ValueOf", "(internal/reflectlite.Value).Type", "(internal/reflectlite.Value).IsNil", "internal/reflectlite.TypeOf", "(internal/reflectlite.Value).Elem", "(internal/reflectlite.Value).Set", "internal/bytealg.MakeNoZero"], unfollowed := true, recurses := true, named := ["errors.errorType"], apart := false, laid := [("errors.errorType", laid_errors_errorType)], narrowed := true }
def MetricOthersUptoSaid : Prop := metricOthersUptoRow.holds Tryz.pinned (OpenSpec.upto metricOthersSpec)

end Rows
end Go.Proofs.YtmnllpkbjkenfaaGreatDoor
