/-
  NARROWER THAN 'FOR EVERY INPUT', by the rows' own cells (each row's printed sentence says how): ExemReads: laid · ExemJoins: laid · ExemDeep: laid · ExemBack: loops, laid · ExemTwice: laid · ExemOthers: laid · NumberJoins: laid · NumberSame: loops, laid · NumberBack: loops, laid · NumberTwice: laid · NumberOthers: laid · NumberReads: laid.
  DERIVED. THE GIVEN ROWS OF THIS SEAT. 12 by the template 'for every input the law returns true; each argument reads behind the call as it read before'; 0 by the template 'total and deterministic' (their statements: YtaenjdichndafaaGreatDoorTotals.lean).
  GIVEN WITH THE SEED: the statements are not yours to turn. If you find one false, say at which input.
  Laid BY PROGRAM, IN A SANDBOX (cutbox-rows.mjs): the forced cells as the released guide's own fill.sh prints them over the translation c4f2d68bd09c7497… (all of the seat's roots in one cut). By AI agents, Wed Nov 11 2026. No macro, syntax, notation, axiom, sorry.
-/
import Derived.Test.YtaenjdichndafaaGreatDoorChecked
import GoSem.Claim
import GoSem.ClaimJoined
import GoSem.ClaimMapViews
import Derived.JoinedTies
import Derived.KernelRfl
namespace Go.Proofs.YtaenjdichndafaaGreatDoor
/- THE CELL 'sum', in the pinned program and in every row, IS THE sha256 OF THE DUMP (.gsa) THAT YtaenjdichndafaaGreatDoorProg.lean LOADS. Nothing in Lean hashes anything: it is a label: what it is worth is what the hold of that sum in a sandbox is worth. -/
noncomputable def Tryz.pinned : Pinned := { name := "ytaenjdichndafaagreatdoor", sum := "c4f2d68bd09c7497c621e7e8d7a82b7d576ff6882e30e9165f20a3d78568bb7e", checked := Tryz.checked }
namespace Rows
def none {H : Type} : Left H := { results := [], args := [] }

/- WHAT THE LISTED PACKAGE-LEVEL VARIABLES READ AS WHEN THE CALL BEGINS. Each datum BY PROGRAM (the guide's laid-datum.mjs) off the statement by which the dump's own 'gosem.cut.vars' lays the variable. In a bare row this is a premise. The card (YtaenjdichndafaaGreatDoorCards.lean) ties it to the program's text. -/
def laid_errors_errorType {H : Type} : DataW H := .iface "internal/reflectlite.rtype" (.agg [.ptr (.lit (.string [101, 114, 114, 111, 114]))])

/-- 'hyglaw11.ExemReads': WHATEVER THE INPUT: true; the input reads as it did. -/
def exemReadsSpec : ChangeSpec := { name := "exemReads", fn := fun _ => fun
  | [d1, d2] => { results := [.lit (.bool true)], args := [d1, d2] }
  | _ => none }
def exemReadsRow : OpenClaim := { program := "ytaenjdichndafaagreatdoor", sum := "c4f2d68bd09c7497c621e7e8d7a82b7d576ff6882e30e9165f20a3d78568bb7e", func := "hygrometer/hyglaw11.ExemReads", spec := "exemReads", inPlace := ["internal/abi.NoEscape", "internal/reflectlite.ValueOf", "(internal/reflectlite.Value).Type", "(internal/reflectlite.Value).IsNil", "internal/reflectlite.TypeOf", "(internal/reflectlite.Value).Elem", "(internal/reflectlite.Value).Set", "internal/bytealg.MakeNoZero"], unfollowed := true, recurses := true, named := ["errors.errorType"], apart := false, laid := [("errors.errorType", laid_errors_errorType)] }
def ExemReadsSaid : Prop := exemReadsRow.holds Tryz.pinned (OpenSpec.ofChange exemReadsSpec)

/-- ITS FALSE NEIGHBOUR: 'it returns false'. Refute it at one input. -/
def exemReadsWrong : ChangeSpec := { name := "exemReads", fn := fun _ => fun
  | [d1, d2] => { results := [.lit (.bool false)], args := [d1, d2] }
  | _ => none }
def ExemReadsWrongFalsely : Prop := exemReadsRow.holds Tryz.pinned (OpenSpec.ofChange exemReadsWrong)

/-- 'hyglaw11.ExemJoins': WHATEVER THE INPUT: true; the input reads as it did. -/
def exemJoinsSpec : ChangeSpec := { name := "exemJoins", fn := fun _ => fun
  | [d1, d2, d3] => { results := [.lit (.bool true)], args := [d1, d2, d3] }
  | _ => none }
def exemJoinsRow : OpenClaim := { program := "ytaenjdichndafaagreatdoor", sum := "c4f2d68bd09c7497c621e7e8d7a82b7d576ff6882e30e9165f20a3d78568bb7e", func := "hygrometer/hyglaw11.ExemJoins", spec := "exemJoins", inPlace := ["internal/abi.NoEscape", "internal/reflectlite.ValueOf", "(internal/reflectlite.Value).Type", "(internal/reflectlite.Value).IsNil", "internal/reflectlite.TypeOf", "(internal/reflectlite.Value).Elem", "(internal/reflectlite.Value).Set", "internal/bytealg.MakeNoZero"], unfollowed := true, recurses := true, named := ["errors.errorType"], apart := false, laid := [("errors.errorType", laid_errors_errorType)] }
def ExemJoinsSaid : Prop := exemJoinsRow.holds Tryz.pinned (OpenSpec.ofChange exemJoinsSpec)

/-- ITS FALSE NEIGHBOUR: 'it returns false'. Refute it at one input. -/
def exemJoinsWrong : ChangeSpec := { name := "exemJoins", fn := fun _ => fun
  | [d1, d2, d3] => { results := [.lit (.bool false)], args := [d1, d2, d3] }
  | _ => none }
def ExemJoinsWrongFalsely : Prop := exemJoinsRow.holds Tryz.pinned (OpenSpec.ofChange exemJoinsWrong)

/-- 'hyglaw11.ExemDeep': WHATEVER THE INPUT: true; the input reads as it did. -/
def exemDeepSpec : ChangeSpec := { name := "exemDeep", fn := fun _ => fun
  | [d1, d2] => { results := [.lit (.bool true)], args := [d1, d2] }
  | _ => none }
def exemDeepRow : OpenClaim := { program := "ytaenjdichndafaagreatdoor", sum := "c4f2d68bd09c7497c621e7e8d7a82b7d576ff6882e30e9165f20a3d78568bb7e", func := "hygrometer/hyglaw11.ExemDeep", spec := "exemDeep", inPlace := ["internal/abi.NoEscape", "internal/reflectlite.ValueOf", "(internal/reflectlite.Value).Type", "(internal/reflectlite.Value).IsNil", "internal/reflectlite.TypeOf", "(internal/reflectlite.Value).Elem", "(internal/reflectlite.Value).Set", "internal/bytealg.MakeNoZero"], unfollowed := true, recurses := true, named := ["errors.errorType"], apart := false, laid := [("errors.errorType", laid_errors_errorType)] }
def ExemDeepSaid : Prop := exemDeepRow.holds Tryz.pinned (OpenSpec.ofChange exemDeepSpec)

/-- ITS FALSE NEIGHBOUR: 'it returns false'. Refute it at one input. -/
def exemDeepWrong : ChangeSpec := { name := "exemDeep", fn := fun _ => fun
  | [d1, d2] => { results := [.lit (.bool false)], args := [d1, d2] }
  | _ => none }
def ExemDeepWrongFalsely : Prop := exemDeepRow.holds Tryz.pinned (OpenSpec.ofChange exemDeepWrong)

/-- 'hyglaw11.ExemBack': WHATEVER THE INPUT: true; the input reads as it did. -/
def exemBackSpec : ChangeSpec := { name := "exemBack", fn := fun _ => fun
  | [d1, d2, d3] => { results := [.lit (.bool true)], args := [d1, d2, d3] }
  | _ => none }
def exemBackRow : OpenClaim := { program := "ytaenjdichndafaagreatdoor", sum := "c4f2d68bd09c7497c621e7e8d7a82b7d576ff6882e30e9165f20a3d78568bb7e", func := "hygrometer/hyglaw11.ExemBack", spec := "exemBack", inPlace := ["internal/abi.NoEscape", "internal/reflectlite.ValueOf", "(internal/reflectlite.Value).Type", "(internal/reflectlite.Value).IsNil", "internal/reflectlite.TypeOf", "(internal/reflectlite.Value).Elem", "(internal/reflectlite.Value).Set", "internal/bytealg.MakeNoZero"], unfollowed := true, recurses := true, named := ["errors.errorType"], loops := true, apart := false, laid := [("errors.errorType", laid_errors_errorType)] }
def ExemBackSaid : Prop := exemBackRow.holds Tryz.pinned (OpenSpec.ofChange exemBackSpec)

/-- ITS FALSE NEIGHBOUR: 'it returns false'. Refute it at one input. -/
def exemBackWrong : ChangeSpec := { name := "exemBack", fn := fun _ => fun
  | [d1, d2, d3] => { results := [.lit (.bool false)], args := [d1, d2, d3] }
  | _ => none }
def ExemBackWrongFalsely : Prop := exemBackRow.holds Tryz.pinned (OpenSpec.ofChange exemBackWrong)

/-- 'hyglaw11.ExemTwice': WHATEVER THE INPUT: true; the input reads as it did. -/
def exemTwiceSpec : ChangeSpec := { name := "exemTwice", fn := fun _ => fun
  | [d1, d2] => { results := [.lit (.bool true)], args := [d1, d2] }
  | _ => none }
def exemTwiceRow : OpenClaim := { program := "ytaenjdichndafaagreatdoor", sum := "c4f2d68bd09c7497c621e7e8d7a82b7d576ff6882e30e9165f20a3d78568bb7e", func := "hygrometer/hyglaw11.ExemTwice", spec := "exemTwice", inPlace := ["internal/abi.NoEscape", "internal/reflectlite.ValueOf", "(internal/reflectlite.Value).Type", "(internal/reflectlite.Value).IsNil", "internal/reflectlite.TypeOf", "(internal/reflectlite.Value).Elem", "(internal/reflectlite.Value).Set", "internal/bytealg.MakeNoZero"], unfollowed := true, recurses := true, named := ["errors.errorType"], apart := false, laid := [("errors.errorType", laid_errors_errorType)] }
def ExemTwiceSaid : Prop := exemTwiceRow.holds Tryz.pinned (OpenSpec.ofChange exemTwiceSpec)

/-- ITS FALSE NEIGHBOUR: 'it returns false'. Refute it at one input. -/
def exemTwiceWrong : ChangeSpec := { name := "exemTwice", fn := fun _ => fun
  | [d1, d2] => { results := [.lit (.bool false)], args := [d1, d2] }
  | _ => none }
def ExemTwiceWrongFalsely : Prop := exemTwiceRow.holds Tryz.pinned (OpenSpec.ofChange exemTwiceWrong)

/-- 'hyglaw11.ExemOthers': WHATEVER THE INPUT: true; the input reads as it did. -/
def exemOthersSpec : ChangeSpec := { name := "exemOthers", fn := fun _ => fun
  | [d1, d2, d3, d4] => { results := [.lit (.bool true)], args := [d1, d2, d3, d4] }
  | _ => none }
def exemOthersRow : OpenClaim := { program := "ytaenjdichndafaagreatdoor", sum := "c4f2d68bd09c7497c621e7e8d7a82b7d576ff6882e30e9165f20a3d78568bb7e", func := "hygrometer/hyglaw11.ExemOthers", spec := "exemOthers", inPlace := ["internal/abi.NoEscape", "internal/reflectlite.ValueOf", "(internal/reflectlite.Value).Type", "(internal/reflectlite.Value).IsNil", "internal/reflectlite.TypeOf", "(internal/reflectlite.Value).Elem", "(internal/reflectlite.Value).Set", "internal/bytealg.MakeNoZero"], unfollowed := true, recurses := true, named := ["errors.errorType"], apart := false, laid := [("errors.errorType", laid_errors_errorType)] }
def ExemOthersSaid : Prop := exemOthersRow.holds Tryz.pinned (OpenSpec.ofChange exemOthersSpec)

/-- ITS FALSE NEIGHBOUR: 'it returns false'. Refute it at one input. -/
def exemOthersWrong : ChangeSpec := { name := "exemOthers", fn := fun _ => fun
  | [d1, d2, d3, d4] => { results := [.lit (.bool false)], args := [d1, d2, d3, d4] }
  | _ => none }
def ExemOthersWrongFalsely : Prop := exemOthersRow.holds Tryz.pinned (OpenSpec.ofChange exemOthersWrong)

/-- 'hyglaw12.NumberJoins': WHATEVER THE INPUT: true; the input reads as it did. -/
def numberJoinsSpec : ChangeSpec := { name := "numberJoins", fn := fun _ => fun
  | [d1, d2, d3] => { results := [.lit (.bool true)], args := [d1, d2, d3] }
  | _ => none }
def numberJoinsRow : OpenClaim := { program := "ytaenjdichndafaagreatdoor", sum := "c4f2d68bd09c7497c621e7e8d7a82b7d576ff6882e30e9165f20a3d78568bb7e", func := "hygrometer/hyglaw12.NumberJoins", spec := "numberJoins", inPlace := ["internal/abi.NoEscape", "internal/reflectlite.ValueOf", "(internal/reflectlite.Value).Type", "(internal/reflectlite.Value).IsNil", "internal/reflectlite.TypeOf", "(internal/reflectlite.Value).Elem", "(internal/reflectlite.Value).Set", "internal/bytealg.MakeNoZero"], unfollowed := true, recurses := true, named := ["errors.errorType"], apart := false, laid := [("errors.errorType", laid_errors_errorType)] }
def NumberJoinsSaid : Prop := numberJoinsRow.holds Tryz.pinned (OpenSpec.ofChange numberJoinsSpec)

/-- ITS FALSE NEIGHBOUR: 'it returns false'. Refute it at one input. -/
def numberJoinsWrong : ChangeSpec := { name := "numberJoins", fn := fun _ => fun
  | [d1, d2, d3] => { results := [.lit (.bool false)], args := [d1, d2, d3] }
  | _ => none }
def NumberJoinsWrongFalsely : Prop := numberJoinsRow.holds Tryz.pinned (OpenSpec.ofChange numberJoinsWrong)

/-- 'hyglaw12.NumberSame': WHATEVER THE INPUT: true; the input reads as it did. -/
def numberSameSpec : ChangeSpec := { name := "numberSame", fn := fun _ => fun
  | [d1, d2] => { results := [.lit (.bool true)], args := [d1, d2] }
  | _ => none }
def numberSameRow : OpenClaim := { program := "ytaenjdichndafaagreatdoor", sum := "c4f2d68bd09c7497c621e7e8d7a82b7d576ff6882e30e9165f20a3d78568bb7e", func := "hygrometer/hyglaw12.NumberSame", spec := "numberSame", inPlace := ["internal/abi.NoEscape", "internal/reflectlite.ValueOf", "(internal/reflectlite.Value).Type", "(internal/reflectlite.Value).IsNil", "internal/reflectlite.TypeOf", "(internal/reflectlite.Value).Elem", "(internal/reflectlite.Value).Set", "internal/bytealg.MakeNoZero"], unfollowed := true, recurses := true, named := ["errors.errorType"], loops := true, apart := false, laid := [("errors.errorType", laid_errors_errorType)] }
def NumberSameSaid : Prop := numberSameRow.holds Tryz.pinned (OpenSpec.ofChange numberSameSpec)

/-- ITS FALSE NEIGHBOUR: 'it returns false'. Refute it at one input. -/
def numberSameWrong : ChangeSpec := { name := "numberSame", fn := fun _ => fun
  | [d1, d2] => { results := [.lit (.bool false)], args := [d1, d2] }
  | _ => none }
def NumberSameWrongFalsely : Prop := numberSameRow.holds Tryz.pinned (OpenSpec.ofChange numberSameWrong)

/-- 'hyglaw12.NumberBack': WHATEVER THE INPUT: true; the input reads as it did. -/
def numberBackSpec : ChangeSpec := { name := "numberBack", fn := fun _ => fun
  | [d1, d2, d3] => { results := [.lit (.bool true)], args := [d1, d2, d3] }
  | _ => none }
def numberBackRow : OpenClaim := { program := "ytaenjdichndafaagreatdoor", sum := "c4f2d68bd09c7497c621e7e8d7a82b7d576ff6882e30e9165f20a3d78568bb7e", func := "hygrometer/hyglaw12.NumberBack", spec := "numberBack", inPlace := ["internal/abi.NoEscape", "internal/reflectlite.ValueOf", "(internal/reflectlite.Value).Type", "(internal/reflectlite.Value).IsNil", "internal/reflectlite.TypeOf", "(internal/reflectlite.Value).Elem", "(internal/reflectlite.Value).Set", "internal/bytealg.MakeNoZero"], unfollowed := true, recurses := true, named := ["errors.errorType"], loops := true, apart := false, laid := [("errors.errorType", laid_errors_errorType)] }
def NumberBackSaid : Prop := numberBackRow.holds Tryz.pinned (OpenSpec.ofChange numberBackSpec)

/-- ITS FALSE NEIGHBOUR: 'it returns false'. Refute it at one input. -/
def numberBackWrong : ChangeSpec := { name := "numberBack", fn := fun _ => fun
  | [d1, d2, d3] => { results := [.lit (.bool false)], args := [d1, d2, d3] }
  | _ => none }
def NumberBackWrongFalsely : Prop := numberBackRow.holds Tryz.pinned (OpenSpec.ofChange numberBackWrong)

/-- 'hyglaw12.NumberTwice': WHATEVER THE INPUT: true; the input reads as it did. -/
def numberTwiceSpec : ChangeSpec := { name := "numberTwice", fn := fun _ => fun
  | [d1, d2] => { results := [.lit (.bool true)], args := [d1, d2] }
  | _ => none }
def numberTwiceRow : OpenClaim := { program := "ytaenjdichndafaagreatdoor", sum := "c4f2d68bd09c7497c621e7e8d7a82b7d576ff6882e30e9165f20a3d78568bb7e", func := "hygrometer/hyglaw12.NumberTwice", spec := "numberTwice", inPlace := ["internal/abi.NoEscape", "internal/reflectlite.ValueOf", "(internal/reflectlite.Value).Type", "(internal/reflectlite.Value).IsNil", "internal/reflectlite.TypeOf", "(internal/reflectlite.Value).Elem", "(internal/reflectlite.Value).Set", "internal/bytealg.MakeNoZero"], unfollowed := true, recurses := true, named := ["errors.errorType"], apart := false, laid := [("errors.errorType", laid_errors_errorType)] }
def NumberTwiceSaid : Prop := numberTwiceRow.holds Tryz.pinned (OpenSpec.ofChange numberTwiceSpec)

/-- ITS FALSE NEIGHBOUR: 'it returns false'. Refute it at one input. -/
def numberTwiceWrong : ChangeSpec := { name := "numberTwice", fn := fun _ => fun
  | [d1, d2] => { results := [.lit (.bool false)], args := [d1, d2] }
  | _ => none }
def NumberTwiceWrongFalsely : Prop := numberTwiceRow.holds Tryz.pinned (OpenSpec.ofChange numberTwiceWrong)

/-- 'hyglaw12.NumberOthers': WHATEVER THE INPUT: true; the input reads as it did. -/
def numberOthersSpec : ChangeSpec := { name := "numberOthers", fn := fun _ => fun
  | [d1, d2, d3, d4] => { results := [.lit (.bool true)], args := [d1, d2, d3, d4] }
  | _ => none }
def numberOthersRow : OpenClaim := { program := "ytaenjdichndafaagreatdoor", sum := "c4f2d68bd09c7497c621e7e8d7a82b7d576ff6882e30e9165f20a3d78568bb7e", func := "hygrometer/hyglaw12.NumberOthers", spec := "numberOthers", inPlace := ["internal/abi.NoEscape", "internal/reflectlite.ValueOf", "(internal/reflectlite.Value).Type", "(internal/reflectlite.Value).IsNil", "internal/reflectlite.TypeOf", "(internal/reflectlite.Value).Elem", "(internal/reflectlite.Value).Set", "internal/bytealg.MakeNoZero"], unfollowed := true, recurses := true, named := ["errors.errorType"], apart := false, laid := [("errors.errorType", laid_errors_errorType)] }
def NumberOthersSaid : Prop := numberOthersRow.holds Tryz.pinned (OpenSpec.ofChange numberOthersSpec)

/-- ITS FALSE NEIGHBOUR: 'it returns false'. Refute it at one input. -/
def numberOthersWrong : ChangeSpec := { name := "numberOthers", fn := fun _ => fun
  | [d1, d2, d3, d4] => { results := [.lit (.bool false)], args := [d1, d2, d3, d4] }
  | _ => none }
def NumberOthersWrongFalsely : Prop := numberOthersRow.holds Tryz.pinned (OpenSpec.ofChange numberOthersWrong)

/-- 'hyglaw12.NumberReads': WHATEVER THE INPUT: true; the input reads as it did. -/
def numberReadsSpec : ChangeSpec := { name := "numberReads", fn := fun _ => fun
  | [d1, d2] => { results := [.lit (.bool true)], args := [d1, d2] }
  | _ => none }
def numberReadsRow : OpenClaim := { program := "ytaenjdichndafaagreatdoor", sum := "c4f2d68bd09c7497c621e7e8d7a82b7d576ff6882e30e9165f20a3d78568bb7e", func := "hygrometer/hyglaw12.NumberReads", spec := "numberReads", inPlace := ["internal/abi.NoEscape", "internal/reflectlite.ValueOf", "(internal/reflectlite.Value).Type", "(internal/reflectlite.Value).IsNil", "internal/reflectlite.TypeOf", "(internal/reflectlite.Value).Elem", "(internal/reflectlite.Value).Set", "internal/bytealg.MakeNoZero"], unfollowed := true, recurses := true, named := ["errors.errorType"], apart := false, laid := [("errors.errorType", laid_errors_errorType)] }
def NumberReadsSaid : Prop := numberReadsRow.holds Tryz.pinned (OpenSpec.ofChange numberReadsSpec)

/-- ITS FALSE NEIGHBOUR: 'it returns false'. Refute it at one input. -/
def numberReadsWrong : ChangeSpec := { name := "numberReads", fn := fun _ => fun
  | [d1, d2] => { results := [.lit (.bool false)], args := [d1, d2] }
  | _ => none }
def NumberReadsWrongFalsely : Prop := numberReadsRow.holds Tryz.pinned (OpenSpec.ofChange numberReadsWrong)

/- THE SECOND FORM. 'bulk': how many values and letters a reading holds, each counted each time it is reached (what is shared counts as often as it is met; a slice's spare places count too). A statement '..UptoSaid' is the law's where the arguments, and the package variables that the reading takes, are together of bulk at most 1048576: NARROWER than '..Said'. Prove '..Said' where nothing that the law and all that it calls make is longer than what came in: it says more and counts as full. Else prove '..UptoSaid'. A law counts once. -/
mutual
def uptoBulk {H : Type} : DataW H → Nat
  | .lit (.string bytes) => bytes.length + 1
  | .lit _ => 1
  | .nil => 1
  | .ptr d => uptoBulk d + 1
  | .slice elems spare => uptoBulkAll elems + uptoBulkAll spare + 1
  | .agg parts => uptoBulkAll parts + 1
  | .iface _ d => uptoBulk d + 1
  | .map entries => uptoBulkEntries entries + 1
  | .held _ => 1
def uptoBulkAll {H : Type} : List (DataW H) → Nat
  | [] => 0
  | d :: r => uptoBulk d + uptoBulkAll r
def uptoBulkEntries {H : Type} : List (Lit × DataW H) → Nat
  | [] => 0
  | x :: r => uptoBulkEntry x + uptoBulkEntries r
def uptoBulkEntry {H : Type} : Lit × DataW H → Nat
  | (.string bytes, d) => bytes.length + uptoBulk d + 1
  | (_, d) => uptoBulk d + 1
 end
def uptoSmall : (H : Type) → List (DataW H) → Bool := fun _ ds => decide (uptoBulkAll ds ≤ 1048576)
def OpenSpec.upto (s : _root_.Go.ChangeSpec) : _root_.Go.OpenSpec := { _root_.Go.OpenSpec.ofChange s with cond := some uptoSmall }

/-- 'hyglaw11.ExemReads', WHERE WHAT IT READS IS OF BULK AT MOST 1048576: true; the input reads as it did. -/
def exemReadsUptoRow : OpenClaim := { program := "ytaenjdichndafaagreatdoor", sum := "c4f2d68bd09c7497c621e7e8d7a82b7d576ff6882e30e9165f20a3d78568bb7e", func := "hygrometer/hyglaw11.ExemReads", spec := "exemReads", inPlace := ["internal/abi.NoEscape", "internal/reflectlite.ValueOf", "(internal/reflectlite.Value).Type", "(internal/reflectlite.Value).IsNil", "internal/reflectlite.TypeOf", "(internal/reflectlite.Value).Elem", "(internal/reflectlite.Value).Set", "internal/bytealg.MakeNoZero"], unfollowed := true, recurses := true, named := ["errors.errorType"], apart := false, laid := [("errors.errorType", laid_errors_errorType)], narrowed := true }
def ExemReadsUptoSaid : Prop := exemReadsUptoRow.holds Tryz.pinned (OpenSpec.upto exemReadsSpec)

/-- 'hyglaw11.ExemJoins', WHERE WHAT IT READS IS OF BULK AT MOST 1048576: true; the input reads as it did. -/
def exemJoinsUptoRow : OpenClaim := { program := "ytaenjdichndafaagreatdoor", sum := "c4f2d68bd09c7497c621e7e8d7a82b7d576ff6882e30e9165f20a3d78568bb7e", func := "hygrometer/hyglaw11.ExemJoins", spec := "exemJoins", inPlace := ["internal/abi.NoEscape", "internal/reflectlite.ValueOf", "(internal/reflectlite.Value).Type", "(internal/reflectlite.Value).IsNil", "internal/reflectlite.TypeOf", "(internal/reflectlite.Value).Elem", "(internal/reflectlite.Value).Set", "internal/bytealg.MakeNoZero"], unfollowed := true, recurses := true, named := ["errors.errorType"], apart := false, laid := [("errors.errorType", laid_errors_errorType)], narrowed := true }
def ExemJoinsUptoSaid : Prop := exemJoinsUptoRow.holds Tryz.pinned (OpenSpec.upto exemJoinsSpec)

/-- 'hyglaw11.ExemDeep', WHERE WHAT IT READS IS OF BULK AT MOST 1048576: true; the input reads as it did. -/
def exemDeepUptoRow : OpenClaim := { program := "ytaenjdichndafaagreatdoor", sum := "c4f2d68bd09c7497c621e7e8d7a82b7d576ff6882e30e9165f20a3d78568bb7e", func := "hygrometer/hyglaw11.ExemDeep", spec := "exemDeep", inPlace := ["internal/abi.NoEscape", "internal/reflectlite.ValueOf", "(internal/reflectlite.Value).Type", "(internal/reflectlite.Value).IsNil", "internal/reflectlite.TypeOf", "(internal/reflectlite.Value).Elem", "(internal/reflectlite.Value).Set", "internal/bytealg.MakeNoZero"], unfollowed := true, recurses := true, named := ["errors.errorType"], apart := false, laid := [("errors.errorType", laid_errors_errorType)], narrowed := true }
def ExemDeepUptoSaid : Prop := exemDeepUptoRow.holds Tryz.pinned (OpenSpec.upto exemDeepSpec)

/-- 'hyglaw11.ExemBack', WHERE WHAT IT READS IS OF BULK AT MOST 1048576: true; the input reads as it did. -/
def exemBackUptoRow : OpenClaim := { program := "ytaenjdichndafaagreatdoor", sum := "c4f2d68bd09c7497c621e7e8d7a82b7d576ff6882e30e9165f20a3d78568bb7e", func := "hygrometer/hyglaw11.ExemBack", spec := "exemBack", inPlace := ["internal/abi.NoEscape", "internal/reflectlite.ValueOf", "(internal/reflectlite.Value).Type", "(internal/reflectlite.Value).IsNil", "internal/reflectlite.TypeOf", "(internal/reflectlite.Value).Elem", "(internal/reflectlite.Value).Set", "internal/bytealg.MakeNoZero"], unfollowed := true, recurses := true, named := ["errors.errorType"], loops := true, apart := false, laid := [("errors.errorType", laid_errors_errorType)], narrowed := true }
def ExemBackUptoSaid : Prop := exemBackUptoRow.holds Tryz.pinned (OpenSpec.upto exemBackSpec)

/-- 'hyglaw11.ExemTwice', WHERE WHAT IT READS IS OF BULK AT MOST 1048576: true; the input reads as it did. -/
def exemTwiceUptoRow : OpenClaim := { program := "ytaenjdichndafaagreatdoor", sum := "c4f2d68bd09c7497c621e7e8d7a82b7d576ff6882e30e9165f20a3d78568bb7e", func := "hygrometer/hyglaw11.ExemTwice", spec := "exemTwice", inPlace := ["internal/abi.NoEscape", "internal/reflectlite.ValueOf", "(internal/reflectlite.Value).Type", "(internal/reflectlite.Value).IsNil", "internal/reflectlite.TypeOf", "(internal/reflectlite.Value).Elem", "(internal/reflectlite.Value).Set", "internal/bytealg.MakeNoZero"], unfollowed := true, recurses := true, named := ["errors.errorType"], apart := false, laid := [("errors.errorType", laid_errors_errorType)], narrowed := true }
def ExemTwiceUptoSaid : Prop := exemTwiceUptoRow.holds Tryz.pinned (OpenSpec.upto exemTwiceSpec)

/-- 'hyglaw11.ExemOthers', WHERE WHAT IT READS IS OF BULK AT MOST 1048576: true; the input reads as it did. -/
def exemOthersUptoRow : OpenClaim := { program := "ytaenjdichndafaagreatdoor", sum := "c4f2d68bd09c7497c621e7e8d7a82b7d576ff6882e30e9165f20a3d78568bb7e", func := "hygrometer/hyglaw11.ExemOthers", spec := "exemOthers", inPlace := ["internal/abi.NoEscape", "internal/reflectlite.ValueOf", "(internal/reflectlite.Value).Type", "(internal/reflectlite.Value).IsNil", "internal/reflectlite.TypeOf", "(internal/reflectlite.Value).Elem", "(internal/reflectlite.Value).Set", "internal/bytealg.MakeNoZero"], unfollowed := true, recurses := true, named := ["errors.errorType"], apart := false, laid := [("errors.errorType", laid_errors_errorType)], narrowed := true }
def ExemOthersUptoSaid : Prop := exemOthersUptoRow.holds Tryz.pinned (OpenSpec.upto exemOthersSpec)

/-- 'hyglaw12.NumberJoins', WHERE WHAT IT READS IS OF BULK AT MOST 1048576: true; the input reads as it did. -/
def numberJoinsUptoRow : OpenClaim := { program := "ytaenjdichndafaagreatdoor", sum := "c4f2d68bd09c7497c621e7e8d7a82b7d576ff6882e30e9165f20a3d78568bb7e", func := "hygrometer/hyglaw12.NumberJoins", spec := "numberJoins", inPlace := ["internal/abi.NoEscape", "internal/reflectlite.ValueOf", "(internal/reflectlite.Value).Type", "(internal/reflectlite.Value).IsNil", "internal/reflectlite.TypeOf", "(internal/reflectlite.Value).Elem", "(internal/reflectlite.Value).Set", "internal/bytealg.MakeNoZero"], unfollowed := true, recurses := true, named := ["errors.errorType"], apart := false, laid := [("errors.errorType", laid_errors_errorType)], narrowed := true }
def NumberJoinsUptoSaid : Prop := numberJoinsUptoRow.holds Tryz.pinned (OpenSpec.upto numberJoinsSpec)

/-- 'hyglaw12.NumberSame', WHERE WHAT IT READS IS OF BULK AT MOST 1048576: true; the input reads as it did. -/
def numberSameUptoRow : OpenClaim := { program := "ytaenjdichndafaagreatdoor", sum := "c4f2d68bd09c7497c621e7e8d7a82b7d576ff6882e30e9165f20a3d78568bb7e", func := "hygrometer/hyglaw12.NumberSame", spec := "numberSame", inPlace := ["internal/abi.NoEscape", "internal/reflectlite.ValueOf", "(internal/reflectlite.Value).Type", "(internal/reflectlite.Value).IsNil", "internal/reflectlite.TypeOf", "(internal/reflectlite.Value).Elem", "(internal/reflectlite.Value).Set", "internal/bytealg.MakeNoZero"], unfollowed := true, recurses := true, named := ["errors.errorType"], loops := true, apart := false, laid := [("errors.errorType", laid_errors_errorType)], narrowed := true }
def NumberSameUptoSaid : Prop := numberSameUptoRow.holds Tryz.pinned (OpenSpec.upto numberSameSpec)

/-- 'hyglaw12.NumberBack', WHERE WHAT IT READS IS OF BULK AT MOST 1048576: true; the input reads as it did. -/
def numberBackUptoRow : OpenClaim := { program := "ytaenjdichndafaagreatdoor", sum := "c4f2d68bd09c7497c621e7e8d7a82b7d576ff6882e30e9165f20a3d78568bb7e", func := "hygrometer/hyglaw12.NumberBack", spec := "numberBack", inPlace := ["internal/abi.NoEscape", "internal/reflectlite.ValueOf", "(internal/reflectlite.Value).Type", "(internal/reflectlite.Value).IsNil", "internal/reflectlite.TypeOf", "(internal/reflectlite.Value).Elem", "(internal/reflectlite.Value).Set", "internal/bytealg.MakeNoZero"], unfollowed := true, recurses := true, named := ["errors.errorType"], loops := true, apart := false, laid := [("errors.errorType", laid_errors_errorType)], narrowed := true }
def NumberBackUptoSaid : Prop := numberBackUptoRow.holds Tryz.pinned (OpenSpec.upto numberBackSpec)

/-- 'hyglaw12.NumberTwice', WHERE WHAT IT READS IS OF BULK AT MOST 1048576: true; the input reads as it did. -/
def numberTwiceUptoRow : OpenClaim := { program := "ytaenjdichndafaagreatdoor", sum := "c4f2d68bd09c7497c621e7e8d7a82b7d576ff6882e30e9165f20a3d78568bb7e", func := "hygrometer/hyglaw12.NumberTwice", spec := "numberTwice", inPlace := ["internal/abi.NoEscape", "internal/reflectlite.ValueOf", "(internal/reflectlite.Value).Type", "(internal/reflectlite.Value).IsNil", "internal/reflectlite.TypeOf", "(internal/reflectlite.Value).Elem", "(internal/reflectlite.Value).Set", "internal/bytealg.MakeNoZero"], unfollowed := true, recurses := true, named := ["errors.errorType"], apart := false, laid := [("errors.errorType", laid_errors_errorType)], narrowed := true }
def NumberTwiceUptoSaid : Prop := numberTwiceUptoRow.holds Tryz.pinned (OpenSpec.upto numberTwiceSpec)

/-- 'hyglaw12.NumberOthers', WHERE WHAT IT READS IS OF BULK AT MOST 1048576: true; the input reads as it did. -/
def numberOthersUptoRow : OpenClaim := { program := "ytaenjdichndafaagreatdoor", sum := "c4f2d68bd09c7497c621e7e8d7a82b7d576ff6882e30e9165f20a3d78568bb7e", func := "hygrometer/hyglaw12.NumberOthers", spec := "numberOthers", inPlace := ["internal/abi.NoEscape", "internal/reflectlite.ValueOf", "(internal/reflectlite.Value).Type", "(internal/reflectlite.Value).IsNil", "internal/reflectlite.TypeOf", "(internal/reflectlite.Value).Elem", "(internal/reflectlite.Value).Set", "internal/bytealg.MakeNoZero"], unfollowed := true, recurses := true, named := ["errors.errorType"], apart := false, laid := [("errors.errorType", laid_errors_errorType)], narrowed := true }
def NumberOthersUptoSaid : Prop := numberOthersUptoRow.holds Tryz.pinned (OpenSpec.upto numberOthersSpec)

/-- 'hyglaw12.NumberReads', WHERE WHAT IT READS IS OF BULK AT MOST 1048576: true; the input reads as it did. -/
def numberReadsUptoRow : OpenClaim := { program := "ytaenjdichndafaagreatdoor", sum := "c4f2d68bd09c7497c621e7e8d7a82b7d576ff6882e30e9165f20a3d78568bb7e", func := "hygrometer/hyglaw12.NumberReads", spec := "numberReads", inPlace := ["internal/abi.NoEscape", "internal/reflectlite.ValueOf", "(internal/reflectlite.Value).Type", "(internal/reflectlite.Value).IsNil", "internal/reflectlite.TypeOf", "(internal/reflectlite.Value).Elem", "(internal/reflectlite.Value).Set", "internal/bytealg.MakeNoZero"], unfollowed := true, recurses := true, named := ["errors.errorType"], apart := false, laid := [("errors.errorType", laid_errors_errorType)], narrowed := true }
def NumberReadsUptoSaid : Prop := numberReadsUptoRow.holds Tryz.pinned (OpenSpec.upto numberReadsSpec)

end Rows
end Go.Proofs.YtaenjdichndafaaGreatDoor
