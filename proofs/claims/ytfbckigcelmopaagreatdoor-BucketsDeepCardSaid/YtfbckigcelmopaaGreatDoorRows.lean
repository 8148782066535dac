/-
  NARROWER THAN 'FOR EVERY INPUT', by the rows' own cells (each row's printed sentence says how): BucketsJoins: laid · BucketsReads: laid · BucketsDeep: laid · BucketsWrites: laid · BucketsSame: laid · BucketsBack: laid · BucketsTwice: laid · BucketsOthers: laid.
  DERIVED. THE GIVEN ROWS OF THIS SEAT. 8 by the template 'for every input the law returns true; each argument reads behind the call as it read before'; 0 by the template 'total and deterministic' (their statements: YtfbckigcelmopaaGreatDoorTotals.lean).
  GIVEN WITH THE SEED: the statements are not yours to turn. If you find one false, say at which input.
  Laid BY PROGRAM, IN A SANDBOX (cutbox-rows.mjs): the forced cells as the released guide's own fill.sh prints them over the translation 8d89979e56e0b937… (all of the seat's roots in one cut). By AI agents, Wed Nov 11 2026. No macro, syntax, notation, axiom, sorry.
-/
import Derived.Test.YtfbckigcelmopaaGreatDoorChecked
import GoSem.Claim
import GoSem.ClaimJoined
import GoSem.ClaimMapViews
import Derived.JoinedTies
import Derived.KernelRfl
namespace Go.Proofs.YtfbckigcelmopaaGreatDoor
/- THE CELL 'sum', in the pinned program and in every row, IS THE sha256 OF THE DUMP (.gsa) THAT YtfbckigcelmopaaGreatDoorProg.lean LOADS. Nothing in Lean hashes anything: it is a label: what it is worth is what the hold of that sum in a sandbox is worth. -/
noncomputable def Tryz.pinned : Pinned := { name := "ytfbckigcelmopaagreatdoor", sum := "8d89979e56e0b9375c488fbd34eacba633172cb863ea57af4b5ee7055695f70d", checked := Tryz.checked }
namespace Rows
def none {H : Type} : Left H := { results := [], args := [] }

/- WHAT THE LISTED PACKAGE-LEVEL VARIABLES READ AS WHEN THE CALL BEGINS. Each datum BY PROGRAM (the guide's laid-datum.mjs) off the statement by which the dump's own 'gosem.cut.vars' lays the variable. In a bare row this is a premise. The card (YtfbckigcelmopaaGreatDoorCards.lean) ties it to the program's text. -/
def laid_errors_errorType {H : Type} : DataW H := .iface "internal/reflectlite.rtype" (.agg [.ptr (.lit (.string [101, 114, 114, 111, 114]))])

/-- 'hyglaw14.BucketsJoins': WHATEVER THE INPUT: true; the input reads as it did. -/
def bucketsJoinsSpec : ChangeSpec := { name := "bucketsJoins", fn := fun _ => fun
  | [d1, d2, d3] => { results := [.lit (.bool true)], args := [d1, d2, d3] }
  | _ => none }
def bucketsJoinsRow : OpenClaim := { program := "ytfbckigcelmopaagreatdoor", sum := "8d89979e56e0b9375c488fbd34eacba633172cb863ea57af4b5ee7055695f70d", func := "hygrometer/hyglaw14.BucketsJoins", spec := "bucketsJoins", inPlace := ["internal/abi.NoEscape", "internal/reflectlite.ValueOf", "(internal/reflectlite.Value).Type", "(internal/reflectlite.Value).IsNil", "internal/reflectlite.TypeOf", "(internal/reflectlite.Value).Elem", "(internal/reflectlite.Value).Set", "internal/bytealg.MakeNoZero"], unfollowed := true, recurses := true, named := ["errors.errorType"], apart := false, laid := [("errors.errorType", laid_errors_errorType)] }
def BucketsJoinsSaid : Prop := bucketsJoinsRow.holds Tryz.pinned (OpenSpec.ofChange bucketsJoinsSpec)

/-- ITS FALSE NEIGHBOUR: 'it returns false'. Refute it at one input. -/
def bucketsJoinsWrong : ChangeSpec := { name := "bucketsJoins", fn := fun _ => fun
  | [d1, d2, d3] => { results := [.lit (.bool false)], args := [d1, d2, d3] }
  | _ => none }
def BucketsJoinsWrongFalsely : Prop := bucketsJoinsRow.holds Tryz.pinned (OpenSpec.ofChange bucketsJoinsWrong)

/-- 'hyglaw14.BucketsReads': WHATEVER THE INPUT: true; the input reads as it did. -/
def bucketsReadsSpec : ChangeSpec := { name := "bucketsReads", fn := fun _ => fun
  | [d1, d2] => { results := [.lit (.bool true)], args := [d1, d2] }
  | _ => none }
def bucketsReadsRow : OpenClaim := { program := "ytfbckigcelmopaagreatdoor", sum := "8d89979e56e0b9375c488fbd34eacba633172cb863ea57af4b5ee7055695f70d", func := "hygrometer/hyglaw14.BucketsReads", spec := "bucketsReads", inPlace := ["internal/abi.NoEscape", "internal/reflectlite.ValueOf", "(internal/reflectlite.Value).Type", "(internal/reflectlite.Value).IsNil", "internal/reflectlite.TypeOf", "(internal/reflectlite.Value).Elem", "(internal/reflectlite.Value).Set", "internal/bytealg.MakeNoZero"], unfollowed := true, recurses := true, named := ["errors.errorType"], apart := false, laid := [("errors.errorType", laid_errors_errorType)] }
def BucketsReadsSaid : Prop := bucketsReadsRow.holds Tryz.pinned (OpenSpec.ofChange bucketsReadsSpec)

/-- ITS FALSE NEIGHBOUR: 'it returns false'. Refute it at one input. -/
def bucketsReadsWrong : ChangeSpec := { name := "bucketsReads", fn := fun _ => fun
  | [d1, d2] => { results := [.lit (.bool false)], args := [d1, d2] }
  | _ => none }
def BucketsReadsWrongFalsely : Prop := bucketsReadsRow.holds Tryz.pinned (OpenSpec.ofChange bucketsReadsWrong)

/-- 'hyglaw14.BucketsDeep': WHATEVER THE INPUT: true; the input reads as it did. -/
def bucketsDeepSpec : ChangeSpec := { name := "bucketsDeep", fn := fun _ => fun
  | [d1, d2] => { results := [.lit (.bool true)], args := [d1, d2] }
  | _ => none }
def bucketsDeepRow : OpenClaim := { program := "ytfbckigcelmopaagreatdoor", sum := "8d89979e56e0b9375c488fbd34eacba633172cb863ea57af4b5ee7055695f70d", func := "hygrometer/hyglaw14.BucketsDeep", spec := "bucketsDeep", inPlace := ["internal/abi.NoEscape", "internal/reflectlite.ValueOf", "(internal/reflectlite.Value).Type", "(internal/reflectlite.Value).IsNil", "internal/reflectlite.TypeOf", "(internal/reflectlite.Value).Elem", "(internal/reflectlite.Value).Set", "internal/bytealg.MakeNoZero"], unfollowed := true, recurses := true, named := ["errors.errorType"], apart := false, laid := [("errors.errorType", laid_errors_errorType)] }
def BucketsDeepSaid : Prop := bucketsDeepRow.holds Tryz.pinned (OpenSpec.ofChange bucketsDeepSpec)

/-- ITS FALSE NEIGHBOUR: 'it returns false'. Refute it at one input. -/
def bucketsDeepWrong : ChangeSpec := { name := "bucketsDeep", fn := fun _ => fun
  | [d1, d2] => { results := [.lit (.bool false)], args := [d1, d2] }
  | _ => none }
def BucketsDeepWrongFalsely : Prop := bucketsDeepRow.holds Tryz.pinned (OpenSpec.ofChange bucketsDeepWrong)

/-- 'hyglaw14.BucketsWrites': WHATEVER THE INPUT: true; the input reads as it did. -/
def bucketsWritesSpec : ChangeSpec := { name := "bucketsWrites", fn := fun _ => fun
  | [d1, d2] => { results := [.lit (.bool true)], args := [d1, d2] }
  | _ => none }
def bucketsWritesRow : OpenClaim := { program := "ytfbckigcelmopaagreatdoor", sum := "8d89979e56e0b9375c488fbd34eacba633172cb863ea57af4b5ee7055695f70d", func := "hygrometer/hyglaw14.BucketsWrites", spec := "bucketsWrites", inPlace := ["internal/abi.NoEscape", "internal/reflectlite.ValueOf", "(internal/reflectlite.Value).Type", "(internal/reflectlite.Value).IsNil", "internal/reflectlite.TypeOf", "(internal/reflectlite.Value).Elem", "(internal/reflectlite.Value).Set", "internal/bytealg.MakeNoZero"], unfollowed := true, recurses := true, named := ["errors.errorType"], apart := false, laid := [("errors.errorType", laid_errors_errorType)] }
def BucketsWritesSaid : Prop := bucketsWritesRow.holds Tryz.pinned (OpenSpec.ofChange bucketsWritesSpec)

/-- ITS FALSE NEIGHBOUR: 'it returns false'. Refute it at one input. -/
def bucketsWritesWrong : ChangeSpec := { name := "bucketsWrites", fn := fun _ => fun
  | [d1, d2] => { results := [.lit (.bool false)], args := [d1, d2] }
  | _ => none }
def BucketsWritesWrongFalsely : Prop := bucketsWritesRow.holds Tryz.pinned (OpenSpec.ofChange bucketsWritesWrong)

/-- 'hyglaw14.BucketsSame': WHATEVER THE INPUT: true; the input reads as it did. -/
def bucketsSameSpec : ChangeSpec := { name := "bucketsSame", fn := fun _ => fun
  | [d1, d2] => { results := [.lit (.bool true)], args := [d1, d2] }
  | _ => none }
def bucketsSameRow : OpenClaim := { program := "ytfbckigcelmopaagreatdoor", sum := "8d89979e56e0b9375c488fbd34eacba633172cb863ea57af4b5ee7055695f70d", func := "hygrometer/hyglaw14.BucketsSame", spec := "bucketsSame", inPlace := ["internal/abi.NoEscape", "internal/reflectlite.ValueOf", "(internal/reflectlite.Value).Type", "(internal/reflectlite.Value).IsNil", "internal/reflectlite.TypeOf", "(internal/reflectlite.Value).Elem", "(internal/reflectlite.Value).Set", "internal/bytealg.MakeNoZero"], unfollowed := true, recurses := true, named := ["errors.errorType"], apart := false, laid := [("errors.errorType", laid_errors_errorType)] }
def BucketsSameSaid : Prop := bucketsSameRow.holds Tryz.pinned (OpenSpec.ofChange bucketsSameSpec)

/-- ITS FALSE NEIGHBOUR: 'it returns false'. Refute it at one input. -/
def bucketsSameWrong : ChangeSpec := { name := "bucketsSame", fn := fun _ => fun
  | [d1, d2] => { results := [.lit (.bool false)], args := [d1, d2] }
  | _ => none }
def BucketsSameWrongFalsely : Prop := bucketsSameRow.holds Tryz.pinned (OpenSpec.ofChange bucketsSameWrong)

/-- 'hyglaw14.BucketsBack': WHATEVER THE INPUT: true; the input reads as it did. -/
def bucketsBackSpec : ChangeSpec := { name := "bucketsBack", fn := fun _ => fun
  | [d1, d2, d3] => { results := [.lit (.bool true)], args := [d1, d2, d3] }
  | _ => none }
def bucketsBackRow : OpenClaim := { program := "ytfbckigcelmopaagreatdoor", sum := "8d89979e56e0b9375c488fbd34eacba633172cb863ea57af4b5ee7055695f70d", func := "hygrometer/hyglaw14.BucketsBack", spec := "bucketsBack", inPlace := ["internal/abi.NoEscape", "internal/reflectlite.ValueOf", "(internal/reflectlite.Value).Type", "(internal/reflectlite.Value).IsNil", "internal/reflectlite.TypeOf", "(internal/reflectlite.Value).Elem", "(internal/reflectlite.Value).Set", "internal/bytealg.MakeNoZero"], unfollowed := true, recurses := true, named := ["errors.errorType"], apart := false, laid := [("errors.errorType", laid_errors_errorType)] }
def BucketsBackSaid : Prop := bucketsBackRow.holds Tryz.pinned (OpenSpec.ofChange bucketsBackSpec)

/-- ITS FALSE NEIGHBOUR: 'it returns false'. Refute it at one input. -/
def bucketsBackWrong : ChangeSpec := { name := "bucketsBack", fn := fun _ => fun
  | [d1, d2, d3] => { results := [.lit (.bool false)], args := [d1, d2, d3] }
  | _ => none }
def BucketsBackWrongFalsely : Prop := bucketsBackRow.holds Tryz.pinned (OpenSpec.ofChange bucketsBackWrong)

/-- 'hyglaw14.BucketsTwice': WHATEVER THE INPUT: true; the input reads as it did. -/
def bucketsTwiceSpec : ChangeSpec := { name := "bucketsTwice", fn := fun _ => fun
  | [d1, d2] => { results := [.lit (.bool true)], args := [d1, d2] }
  | _ => none }
def bucketsTwiceRow : OpenClaim := { program := "ytfbckigcelmopaagreatdoor", sum := "8d89979e56e0b9375c488fbd34eacba633172cb863ea57af4b5ee7055695f70d", func := "hygrometer/hyglaw14.BucketsTwice", spec := "bucketsTwice", inPlace := ["internal/abi.NoEscape", "internal/reflectlite.ValueOf", "(internal/reflectlite.Value).Type", "(internal/reflectlite.Value).IsNil", "internal/reflectlite.TypeOf", "(internal/reflectlite.Value).Elem", "(internal/reflectlite.Value).Set", "internal/bytealg.MakeNoZero"], unfollowed := true, recurses := true, named := ["errors.errorType"], apart := false, laid := [("errors.errorType", laid_errors_errorType)] }
def BucketsTwiceSaid : Prop := bucketsTwiceRow.holds Tryz.pinned (OpenSpec.ofChange bucketsTwiceSpec)

/-- ITS FALSE NEIGHBOUR: 'it returns false'. Refute it at one input. -/
def bucketsTwiceWrong : ChangeSpec := { name := "bucketsTwice", fn := fun _ => fun
  | [d1, d2] => { results := [.lit (.bool false)], args := [d1, d2] }
  | _ => none }
def BucketsTwiceWrongFalsely : Prop := bucketsTwiceRow.holds Tryz.pinned (OpenSpec.ofChange bucketsTwiceWrong)

/-- 'hyglaw14.BucketsOthers': WHATEVER THE INPUT: true; the input reads as it did. -/
def bucketsOthersSpec : ChangeSpec := { name := "bucketsOthers", fn := fun _ => fun
  | [d1, d2, d3, d4] => { results := [.lit (.bool true)], args := [d1, d2, d3, d4] }
  | _ => none }
def bucketsOthersRow : OpenClaim := { program := "ytfbckigcelmopaagreatdoor", sum := "8d89979e56e0b9375c488fbd34eacba633172cb863ea57af4b5ee7055695f70d", func := "hygrometer/hyglaw14.BucketsOthers", spec := "bucketsOthers", inPlace := ["internal/abi.NoEscape", "internal/reflectlite.ValueOf", "(internal/reflectlite.Value).Type", "(internal/reflectlite.Value).IsNil", "internal/reflectlite.TypeOf", "(internal/reflectlite.Value).Elem", "(internal/reflectlite.Value).Set", "internal/bytealg.MakeNoZero"], unfollowed := true, recurses := true, named := ["errors.errorType"], apart := false, laid := [("errors.errorType", laid_errors_errorType)] }
def BucketsOthersSaid : Prop := bucketsOthersRow.holds Tryz.pinned (OpenSpec.ofChange bucketsOthersSpec)

/-- ITS FALSE NEIGHBOUR: 'it returns false'. Refute it at one input. -/
def bucketsOthersWrong : ChangeSpec := { name := "bucketsOthers", fn := fun _ => fun
  | [d1, d2, d3, d4] => { results := [.lit (.bool false)], args := [d1, d2, d3, d4] }
  | _ => none }
def BucketsOthersWrongFalsely : Prop := bucketsOthersRow.holds Tryz.pinned (OpenSpec.ofChange bucketsOthersWrong)

/- THE SECOND FORM. 'bulk': how many values and letters a reading holds, each counted each time it is reached (what is shared counts as often as it is met; a slice's spare places count too). A statement '..UptoSaid' is the law's where the arguments, and the package variables that the reading takes, are together of bulk at most 1048576: NARROWER than '..Said'. Prove '..Said' where nothing that the law and all that it calls make is longer than what came in: it says more and counts as full. Else prove '..UptoSaid'. A law counts once. -/
mutual
def uptoBulk {H : Type} : DataW H → Nat
  | .lit (.string bytes) => bytes.length + 1
  | .lit _ => 1
  | .nil => 1
  | .ptr d => uptoBulk d + 1
  | .slice elems spare => uptoBulkAll elems + uptoBulkAll spare + 1
  | .agg parts => uptoBulkAll parts + 1
  | .iface _ d => uptoBulk d + 1
  | .map entries => uptoBulkEntries entries + 1
  | .held _ => 1
def uptoBulkAll {H : Type} : List (DataW H) → Nat
  | [] => 0
  | d :: r => uptoBulk d + uptoBulkAll r
def uptoBulkEntries {H : Type} : List (Lit × DataW H) → Nat
  | [] => 0
  | x :: r => uptoBulkEntry x + uptoBulkEntries r
def uptoBulkEntry {H : Type} : Lit × DataW H → Nat
  | (.string bytes, d) => bytes.length + uptoBulk d + 1
  | (_, d) => uptoBulk d + 1
 end
def uptoSmall : (H : Type) → List (DataW H) → Bool := fun _ ds => decide (uptoBulkAll ds ≤ 1048576)
def OpenSpec.upto (s : _root_.Go.ChangeSpec) : _root_.Go.OpenSpec := { _root_.Go.OpenSpec.ofChange s with cond := some uptoSmall }

/-- 'hyglaw14.BucketsJoins', WHERE WHAT IT READS IS OF BULK AT MOST 1048576: true; the input reads as it did. -/
def bucketsJoinsUptoRow : OpenClaim := { program := "ytfbckigcelmopaagreatdoor", sum := "8d89979e56e0b9375c488fbd34eacba633172cb863ea57af4b5ee7055695f70d", func := "hygrometer/hyglaw14.BucketsJoins", spec := "bucketsJoins", inPlace := ["internal/abi.NoEscape", "internal/reflectlite.ValueOf", "(internal/reflectlite.Value).Type", "(internal/reflectlite.Value).IsNil", "internal/reflectlite.TypeOf", "(internal/reflectlite.Value).Elem", "(internal/reflectlite.Value).Set", "internal/bytealg.MakeNoZero"], unfollowed := true, recurses := true, named := ["errors.errorType"], apart := false, laid := [("errors.errorType", laid_errors_errorType)], narrowed := true }
def BucketsJoinsUptoSaid : Prop := bucketsJoinsUptoRow.holds Tryz.pinned (OpenSpec.upto bucketsJoinsSpec)

/-- 'hyglaw14.BucketsReads', WHERE WHAT IT READS IS OF BULK AT MOST 1048576: true; the input reads as it did. -/
def bucketsReadsUptoRow : OpenClaim := { program := "ytfbckigcelmopaagreatdoor", sum := "8d89979e56e0b9375c488fbd34eacba633172cb863ea57af4b5ee7055695f70d", func := "hygrometer/hyglaw14.BucketsReads", spec := "bucketsReads", inPlace := ["internal/abi.NoEscape", "internal/reflectlite.ValueOf", "(internal/reflectlite.Value).Type", "(internal/reflectlite.Value).IsNil", "internal/reflectlite.TypeOf", "(internal/reflectlite.Value).Elem", "(internal/reflectlite.Value).Set", "internal/bytealg.MakeNoZero"], unfollowed := true, recurses := true, named := ["errors.errorType"], apart := false, laid := [("errors.errorType", laid_errors_errorType)], narrowed := true }
def BucketsReadsUptoSaid : Prop := bucketsReadsUptoRow.holds Tryz.pinned (OpenSpec.upto bucketsReadsSpec)

/-- 'hyglaw14.BucketsDeep', WHERE WHAT IT READS IS OF BULK AT MOST 1048576: true; the input reads as it did. -/
def bucketsDeepUptoRow : OpenClaim := { program := "ytfbckigcelmopaagreatdoor", sum := "8d89979e56e0b9375c488fbd34eacba633172cb863ea57af4b5ee7055695f70d", func := "hygrometer/hyglaw14.BucketsDeep", spec := "bucketsDeep", inPlace := ["internal/abi.NoEscape", "internal/reflectlite.ValueOf", "(internal/reflectlite.Value).Type", "(internal/reflectlite.Value).IsNil", "internal/reflectlite.TypeOf", "(internal/reflectlite.Value).Elem", "(internal/reflectlite.Value).Set", "internal/bytealg.MakeNoZero"], unfollowed := true, recurses := true, named := ["errors.errorType"], apart := false, laid := [("errors.errorType", laid_errors_errorType)], narrowed := true }
def BucketsDeepUptoSaid : Prop := bucketsDeepUptoRow.holds Tryz.pinned (OpenSpec.upto bucketsDeepSpec)

/-- 'hyglaw14.BucketsWrites', WHERE WHAT IT READS IS OF BULK AT MOST 1048576: true; the input reads as it did. -/
def bucketsWritesUptoRow : OpenClaim := { program := "ytfbckigcelmopaagreatdoor", sum := "8d89979e56e0b9375c488fbd34eacba633172cb863ea57af4b5ee7055695f70d", func := "hygrometer/hyglaw14.BucketsWrites", spec := "bucketsWrites", inPlace := ["internal/abi.NoEscape", "internal/reflectlite.ValueOf", "(internal/reflectlite.Value).Type", "(internal/reflectlite.Value).IsNil", "internal/reflectlite.TypeOf", "(internal/reflectlite.Value).Elem", "(internal/reflectlite.Value).Set", "internal/bytealg.MakeNoZero"], unfollowed := true, recurses := true, named := ["errors.errorType"], apart := false, laid := [("errors.errorType", laid_errors_errorType)], narrowed := true }
def BucketsWritesUptoSaid : Prop := bucketsWritesUptoRow.holds Tryz.pinned (OpenSpec.upto bucketsWritesSpec)

/-- 'hyglaw14.BucketsSame', WHERE WHAT IT READS IS OF BULK AT MOST 1048576: true; the input reads as it did. -/
def bucketsSameUptoRow : OpenClaim := { program := "ytfbckigcelmopaagreatdoor", sum := "8d89979e56e0b9375c488fbd34eacba633172cb863ea57af4b5ee7055695f70d", func := "hygrometer/hyglaw14.BucketsSame", spec := "bucketsSame", inPlace := ["internal/abi.NoEscape", "internal/reflectlite.ValueOf", "(internal/reflectlite.Value).Type", "(internal/reflectlite.Value).IsNil", "internal/reflectlite.TypeOf", "(internal/reflectlite.Value).Elem", "(internal/reflectlite.Value).Set", "internal/bytealg.MakeNoZero"], unfollowed := true, recurses := true, named := ["errors.errorType"], apart := false, laid := [("errors.errorType", laid_errors_errorType)], narrowed := true }
def BucketsSameUptoSaid : Prop := bucketsSameUptoRow.holds Tryz.pinned (OpenSpec.upto bucketsSameSpec)

/-- 'hyglaw14.BucketsBack', WHERE WHAT IT READS IS OF BULK AT MOST 1048576: true; the input reads as it did. -/
def bucketsBackUptoRow : OpenClaim := { program := "ytfbckigcelmopaagreatdoor", sum := "8d89979e56e0b9375c488fbd34eacba633172cb863ea57af4b5ee7055695f70d", func := "hygrometer/hyglaw14.BucketsBack", spec := "bucketsBack", inPlace := ["internal/abi.NoEscape", "internal/reflectlite.ValueOf", "(internal/reflectlite.Value).Type", "(internal/reflectlite.Value).IsNil", "internal/reflectlite.TypeOf", "(internal/reflectlite.Value).Elem", "(internal/reflectlite.Value).Set", "internal/bytealg.MakeNoZero"], unfollowed := true, recurses := true, named := ["errors.errorType"], apart := false, laid := [("errors.errorType", laid_errors_errorType)], narrowed := true }
def BucketsBackUptoSaid : Prop := bucketsBackUptoRow.holds Tryz.pinned (OpenSpec.upto bucketsBackSpec)

/-- 'hyglaw14.BucketsTwice', WHERE WHAT IT READS IS OF BULK AT MOST 1048576: true; the input reads as it did. -/
def bucketsTwiceUptoRow : OpenClaim := { program := "ytfbckigcelmopaagreatdoor", sum := "8d89979e56e0b9375c488fbd34eacba633172cb863ea57af4b5ee7055695f70d", func := "hygrometer/hyglaw14.BucketsTwice", spec := "bucketsTwice", inPlace := ["internal/abi.NoEscape", "internal/reflectlite.ValueOf", "(internal/reflectlite.Value).Type", "(internal/reflectlite.Value).IsNil", "internal/reflectlite.TypeOf", "(internal/reflectlite.Value).Elem", "(internal/reflectlite.Value).Set", "internal/bytealg.MakeNoZero"], unfollowed := true, recurses := true, named := ["errors.errorType"], apart := false, laid := [("errors.errorType", laid_errors_errorType)], narrowed := true }
def BucketsTwiceUptoSaid : Prop := bucketsTwiceUptoRow.holds Tryz.pinned (OpenSpec.upto bucketsTwiceSpec)

/-- 'hyglaw14.BucketsOthers', WHERE WHAT IT READS IS OF BULK AT MOST 1048576: true; the input reads as it did. -/
def bucketsOthersUptoRow : OpenClaim := { program := "ytfbckigcelmopaagreatdoor", sum := "8d89979e56e0b9375c488fbd34eacba633172cb863ea57af4b5ee7055695f70d", func := "hygrometer/hyglaw14.BucketsOthers", spec := "bucketsOthers", inPlace := ["internal/abi.NoEscape", "internal/reflectlite.ValueOf", "(internal/reflectlite.Value).Type", "(internal/reflectlite.Value).IsNil", "internal/reflectlite.TypeOf", "(internal/reflectlite.Value).Elem", "(internal/reflectlite.Value).Set", "internal/bytealg.MakeNoZero"], unfollowed := true, recurses := true, named := ["errors.errorType"], apart := false, laid := [("errors.errorType", laid_errors_errorType)], narrowed := true }
def BucketsOthersUptoSaid : Prop := bucketsOthersUptoRow.holds Tryz.pinned (OpenSpec.upto bucketsOthersSpec)

end Rows
end Go.Proofs.YtfbckigcelmopaaGreatDoor
