/-
  NARROWER THAN 'FOR EVERY INPUT', by the rows' own cells (each row's printed sentence says how): ExphJoins: laid · ExphReads: laid · ExphDeep: laid · ExphSame: loops, laid · ExphOthers: laid · ExphBack: loops, laid · ExphTwice: laid · ExphWrites: loops, laid.
  DERIVED. THE GIVEN ROWS OF THIS SEAT. 8 by the template 'for every input the law returns true; each argument reads behind the call as it read before'; 0 by the template 'total and deterministic' (their statements: YtcinfkbdmjnjlaaGreatDoorTotals.lean).
  GIVEN WITH THE SEED: the statements are not yours to turn. If you find one false, say at which input.
  Laid BY PROGRAM, IN A SANDBOX (cutbox-rows.mjs): the forced cells as the released guide's own fill.sh prints them over the translation 59acc015961f67d2… (all of the seat's roots in one cut). By AI agents, Wed Nov 11 2026. No macro, syntax, notation, axiom, sorry.
-/
import Derived.Test.YtcinfkbdmjnjlaaGreatDoorChecked
import GoSem.Claim
import GoSem.ClaimJoined
import GoSem.ClaimMapViews
import Derived.JoinedTies
import Derived.KernelRfl
namespace Go.Proofs.YtcinfkbdmjnjlaaGreatDoor
/- THE CELL 'sum', in the pinned program and in every row, IS THE sha256 OF THE DUMP (.gsa) THAT YtcinfkbdmjnjlaaGreatDoorProg.lean LOADS. Nothing in Lean hashes anything: it is a label: what it is worth is what the hold of that sum in a sandbox is worth. -/
noncomputable def Tryz.pinned : Pinned := { name := "ytcinfkbdmjnjlaagreatdoor", sum := "59acc015961f67d230682bcec7fd5908c346668e2b5651cece2ef5453be2f5a5", checked := Tryz.checked }
namespace Rows
def none {H : Type} : Left H := { results := [], args := [] }

/- WHAT THE LISTED PACKAGE-LEVEL VARIABLES READ AS WHEN THE CALL BEGINS. Each datum BY PROGRAM (the guide's laid-datum.mjs) off the statement by which the dump's own 'gosem.cut.vars' lays the variable. In a bare row this is a premise. The card (YtcinfkbdmjnjlaaGreatDoorCards.lean) ties it to the program's text. -/
def laid_errors_errorType {H : Type} : DataW H := .iface "internal/reflectlite.rtype" (.agg [.ptr (.lit (.string [101, 114, 114, 111, 114]))])

/-- 'hyglaw14.ExphJoins': WHATEVER THE INPUT: true; the input reads as it did. -/
def exphJoinsSpec : ChangeSpec := { name := "exphJoins", fn := fun _ => fun
  | [d1, d2, d3] => { results := [.lit (.bool true)], args := [d1, d2, d3] }
  | _ => none }
def exphJoinsRow : OpenClaim := { program := "ytcinfkbdmjnjlaagreatdoor", sum := "59acc015961f67d230682bcec7fd5908c346668e2b5651cece2ef5453be2f5a5", func := "hygrometer/hyglaw14.ExphJoins", spec := "exphJoins", inPlace := ["internal/abi.NoEscape", "internal/reflectlite.ValueOf", "(internal/reflectlite.Value).Type", "(internal/reflectlite.Value).IsNil", "internal/reflectlite.TypeOf", "(internal/reflectlite.Value).Elem", "(internal/reflectlite.Value).Set", "internal/bytealg.MakeNoZero"], unfollowed := true, recurses := true, named := ["errors.errorType"], apart := false, laid := [("errors.errorType", laid_errors_errorType)] }
def ExphJoinsSaid : Prop := exphJoinsRow.holds Tryz.pinned (OpenSpec.ofChange exphJoinsSpec)

/-- ITS FALSE NEIGHBOUR: 'it returns false'. Refute it at one input. -/
def exphJoinsWrong : ChangeSpec := { name := "exphJoins", fn := fun _ => fun
  | [d1, d2, d3] => { results := [.lit (.bool false)], args := [d1, d2, d3] }
  | _ => none }
def ExphJoinsWrongFalsely : Prop := exphJoinsRow.holds Tryz.pinned (OpenSpec.ofChange exphJoinsWrong)

/-- 'hyglaw14.ExphReads': WHATEVER THE INPUT: true; the input reads as it did. -/
def exphReadsSpec : ChangeSpec := { name := "exphReads", fn := fun _ => fun
  | [d1, d2] => { results := [.lit (.bool true)], args := [d1, d2] }
  | _ => none }
def exphReadsRow : OpenClaim := { program := "ytcinfkbdmjnjlaagreatdoor", sum := "59acc015961f67d230682bcec7fd5908c346668e2b5651cece2ef5453be2f5a5", func := "hygrometer/hyglaw14.ExphReads", spec := "exphReads", inPlace := ["internal/abi.NoEscape", "internal/reflectlite.ValueOf", "(internal/reflectlite.Value).Type", "(internal/reflectlite.Value).IsNil", "internal/reflectlite.TypeOf", "(internal/reflectlite.Value).Elem", "(internal/reflectlite.Value).Set", "internal/bytealg.MakeNoZero"], unfollowed := true, recurses := true, named := ["errors.errorType"], apart := false, laid := [("errors.errorType", laid_errors_errorType)] }
def ExphReadsSaid : Prop := exphReadsRow.holds Tryz.pinned (OpenSpec.ofChange exphReadsSpec)

/-- ITS FALSE NEIGHBOUR: 'it returns false'. Refute it at one input. -/
def exphReadsWrong : ChangeSpec := { name := "exphReads", fn := fun _ => fun
  | [d1, d2] => { results := [.lit (.bool false)], args := [d1, d2] }
  | _ => none }
def ExphReadsWrongFalsely : Prop := exphReadsRow.holds Tryz.pinned (OpenSpec.ofChange exphReadsWrong)

/-- 'hyglaw14.ExphDeep': WHATEVER THE INPUT: true; the input reads as it did. -/
def exphDeepSpec : ChangeSpec := { name := "exphDeep", fn := fun _ => fun
  | [d1, d2] => { results := [.lit (.bool true)], args := [d1, d2] }
  | _ => none }
def exphDeepRow : OpenClaim := { program := "ytcinfkbdmjnjlaagreatdoor", sum := "59acc015961f67d230682bcec7fd5908c346668e2b5651cece2ef5453be2f5a5", func := "hygrometer/hyglaw14.ExphDeep", spec := "exphDeep", inPlace := ["internal/abi.NoEscape", "internal/reflectlite.ValueOf", "(internal/reflectlite.Value).Type", "(internal/reflectlite.Value).IsNil", "internal/reflectlite.TypeOf", "(internal/reflectlite.Value).Elem", "(internal/reflectlite.Value).Set", "internal/bytealg.MakeNoZero"], unfollowed := true, recurses := true, named := ["errors.errorType"], apart := false, laid := [("errors.errorType", laid_errors_errorType)] }
def ExphDeepSaid : Prop := exphDeepRow.holds Tryz.pinned (OpenSpec.ofChange exphDeepSpec)

/-- ITS FALSE NEIGHBOUR: 'it returns false'. Refute it at one input. -/
def exphDeepWrong : ChangeSpec := { name := "exphDeep", fn := fun _ => fun
  | [d1, d2] => { results := [.lit (.bool false)], args := [d1, d2] }
  | _ => none }
def ExphDeepWrongFalsely : Prop := exphDeepRow.holds Tryz.pinned (OpenSpec.ofChange exphDeepWrong)

/-- 'hyglaw14.ExphSame': WHATEVER THE INPUT: true; the input reads as it did. -/
def exphSameSpec : ChangeSpec := { name := "exphSame", fn := fun _ => fun
  | [d1, d2] => { results := [.lit (.bool true)], args := [d1, d2] }
  | _ => none }
def exphSameRow : OpenClaim := { program := "ytcinfkbdmjnjlaagreatdoor", sum := "59acc015961f67d230682bcec7fd5908c346668e2b5651cece2ef5453be2f5a5", func := "hygrometer/hyglaw14.ExphSame", spec := "exphSame", inPlace := ["internal/abi.NoEscape", "internal/reflectlite.ValueOf", "(internal/reflectlite.Value).Type", "(internal/reflectlite.Value).IsNil", "internal/reflectlite.TypeOf", "(internal/reflectlite.Value).Elem", "(internal/reflectlite.Value).Set", "internal/bytealg.MakeNoZero"], unfollowed := true, recurses := true, named := ["errors.errorType"], loops := true, apart := false, laid := [("errors.errorType", laid_errors_errorType)] }
def ExphSameSaid : Prop := exphSameRow.holds Tryz.pinned (OpenSpec.ofChange exphSameSpec)

/-- ITS FALSE NEIGHBOUR: 'it returns false'. Refute it at one input. -/
def exphSameWrong : ChangeSpec := { name := "exphSame", fn := fun _ => fun
  | [d1, d2] => { results := [.lit (.bool false)], args := [d1, d2] }
  | _ => none }
def ExphSameWrongFalsely : Prop := exphSameRow.holds Tryz.pinned (OpenSpec.ofChange exphSameWrong)

/-- 'hyglaw14.ExphOthers': WHATEVER THE INPUT: true; the input reads as it did. -/
def exphOthersSpec : ChangeSpec := { name := "exphOthers", fn := fun _ => fun
  | [d1, d2, d3, d4] => { results := [.lit (.bool true)], args := [d1, d2, d3, d4] }
  | _ => none }
def exphOthersRow : OpenClaim := { program := "ytcinfkbdmjnjlaagreatdoor", sum := "59acc015961f67d230682bcec7fd5908c346668e2b5651cece2ef5453be2f5a5", func := "hygrometer/hyglaw14.ExphOthers", spec := "exphOthers", inPlace := ["internal/abi.NoEscape", "internal/reflectlite.ValueOf", "(internal/reflectlite.Value).Type", "(internal/reflectlite.Value).IsNil", "internal/reflectlite.TypeOf", "(internal/reflectlite.Value).Elem", "(internal/reflectlite.Value).Set", "internal/bytealg.MakeNoZero"], unfollowed := true, recurses := true, named := ["errors.errorType"], apart := false, laid := [("errors.errorType", laid_errors_errorType)] }
def ExphOthersSaid : Prop := exphOthersRow.holds Tryz.pinned (OpenSpec.ofChange exphOthersSpec)

/-- ITS FALSE NEIGHBOUR: 'it returns false'. Refute it at one input. -/
def exphOthersWrong : ChangeSpec := { name := "exphOthers", fn := fun _ => fun
  | [d1, d2, d3, d4] => { results := [.lit (.bool false)], args := [d1, d2, d3, d4] }
  | _ => none }
def ExphOthersWrongFalsely : Prop := exphOthersRow.holds Tryz.pinned (OpenSpec.ofChange exphOthersWrong)

/-- 'hyglaw14.ExphBack': WHATEVER THE INPUT: true; the input reads as it did. -/
def exphBackSpec : ChangeSpec := { name := "exphBack", fn := fun _ => fun
  | [d1, d2, d3] => { results := [.lit (.bool true)], args := [d1, d2, d3] }
  | _ => none }
def exphBackRow : OpenClaim := { program := "ytcinfkbdmjnjlaagreatdoor", sum := "59acc015961f67d230682bcec7fd5908c346668e2b5651cece2ef5453be2f5a5", func := "hygrometer/hyglaw14.ExphBack", spec := "exphBack", inPlace := ["internal/abi.NoEscape", "internal/reflectlite.ValueOf", "(internal/reflectlite.Value).Type", "(internal/reflectlite.Value).IsNil", "internal/reflectlite.TypeOf", "(internal/reflectlite.Value).Elem", "(internal/reflectlite.Value).Set", "internal/bytealg.MakeNoZero"], unfollowed := true, recurses := true, named := ["errors.errorType"], loops := true, apart := false, laid := [("errors.errorType", laid_errors_errorType)] }
def ExphBackSaid : Prop := exphBackRow.holds Tryz.pinned (OpenSpec.ofChange exphBackSpec)

/-- ITS FALSE NEIGHBOUR: 'it returns false'. Refute it at one input. -/
def exphBackWrong : ChangeSpec := { name := "exphBack", fn := fun _ => fun
  | [d1, d2, d3] => { results := [.lit (.bool false)], args := [d1, d2, d3] }
  | _ => none }
def ExphBackWrongFalsely : Prop := exphBackRow.holds Tryz.pinned (OpenSpec.ofChange exphBackWrong)

/-- 'hyglaw14.ExphTwice': WHATEVER THE INPUT: true; the input reads as it did. -/
def exphTwiceSpec : ChangeSpec := { name := "exphTwice", fn := fun _ => fun
  | [d1, d2] => { results := [.lit (.bool true)], args := [d1, d2] }
  | _ => none }
def exphTwiceRow : OpenClaim := { program := "ytcinfkbdmjnjlaagreatdoor", sum := "59acc015961f67d230682bcec7fd5908c346668e2b5651cece2ef5453be2f5a5", func := "hygrometer/hyglaw14.ExphTwice", spec := "exphTwice", inPlace := ["internal/abi.NoEscape", "internal/reflectlite.ValueOf", "(internal/reflectlite.Value).Type", "(internal/reflectlite.Value).IsNil", "internal/reflectlite.TypeOf", "(internal/reflectlite.Value).Elem", "(internal/reflectlite.Value).Set", "internal/bytealg.MakeNoZero"], unfollowed := true, recurses := true, named := ["errors.errorType"], apart := false, laid := [("errors.errorType", laid_errors_errorType)] }
def ExphTwiceSaid : Prop := exphTwiceRow.holds Tryz.pinned (OpenSpec.ofChange exphTwiceSpec)

/-- ITS FALSE NEIGHBOUR: 'it returns false'. Refute it at one input. -/
def exphTwiceWrong : ChangeSpec := { name := "exphTwice", fn := fun _ => fun
  | [d1, d2] => { results := [.lit (.bool false)], args := [d1, d2] }
  | _ => none }
def ExphTwiceWrongFalsely : Prop := exphTwiceRow.holds Tryz.pinned (OpenSpec.ofChange exphTwiceWrong)

/-- 'hyglaw14.ExphWrites': WHATEVER THE INPUT: true; the input reads as it did. -/
def exphWritesSpec : ChangeSpec := { name := "exphWrites", fn := fun _ => fun
  | [d1, d2] => { results := [.lit (.bool true)], args := [d1, d2] }
  | _ => none }
def exphWritesRow : OpenClaim := { program := "ytcinfkbdmjnjlaagreatdoor", sum := "59acc015961f67d230682bcec7fd5908c346668e2b5651cece2ef5453be2f5a5", func := "hygrometer/hyglaw14.ExphWrites", spec := "exphWrites", inPlace := ["internal/abi.NoEscape", "internal/reflectlite.ValueOf", "(internal/reflectlite.Value).Type", "(internal/reflectlite.Value).IsNil", "internal/reflectlite.TypeOf", "(internal/reflectlite.Value).Elem", "(internal/reflectlite.Value).Set", "internal/bytealg.MakeNoZero"], unfollowed := true, recurses := true, named := ["errors.errorType"], loops := true, apart := false, laid := [("errors.errorType", laid_errors_errorType)] }
def ExphWritesSaid : Prop := exphWritesRow.holds Tryz.pinned (OpenSpec.ofChange exphWritesSpec)

/-- ITS FALSE NEIGHBOUR: 'it returns false'. Refute it at one input. -/
def exphWritesWrong : ChangeSpec := { name := "exphWrites", fn := fun _ => fun
  | [d1, d2] => { results := [.lit (.bool false)], args := [d1, d2] }
  | _ => none }
def ExphWritesWrongFalsely : Prop := exphWritesRow.holds Tryz.pinned (OpenSpec.ofChange exphWritesWrong)

/- THE SECOND FORM. 'bulk': how many values and letters a reading holds, each counted each time it is reached (what is shared counts as often as it is met; a slice's spare places count too). A statement '..UptoSaid' is the law's where the arguments, and the package variables that the reading takes, are together of bulk at most 1048576: NARROWER than '..Said'. Prove '..Said' where nothing that the law and all that it calls make is longer than what came in: it says more and counts as full. Else prove '..UptoSaid'. A law counts once. -/
mutual
def uptoBulk {H : Type} : DataW H → Nat
  | .lit (.string bytes) => bytes.length + 1
  | .lit _ => 1
  | .nil => 1
  | .ptr d => uptoBulk d + 1
  | .slice elems spare => uptoBulkAll elems + uptoBulkAll spare + 1
  | .agg parts => uptoBulkAll parts + 1
  | .iface _ d => uptoBulk d + 1
  | .map entries => uptoBulkEntries entries + 1
  | .held _ => 1
def uptoBulkAll {H : Type} : List (DataW H) → Nat
  | [] => 0
  | d :: r => uptoBulk d + uptoBulkAll r
def uptoBulkEntries {H : Type} : List (Lit × DataW H) → Nat
  | [] => 0
  | x :: r => uptoBulkEntry x + uptoBulkEntries r
def uptoBulkEntry {H : Type} : Lit × DataW H → Nat
  | (.string bytes, d) => bytes.length + uptoBulk d + 1
  | (_, d) => uptoBulk d + 1
 end
def uptoSmall : (H : Type) → List (DataW H) → Bool := fun _ ds => decide (uptoBulkAll ds ≤ 1048576)
def OpenSpec.upto (s : _root_.Go.ChangeSpec) : _root_.Go.OpenSpec := { _root_.Go.OpenSpec.ofChange s with cond := some uptoSmall }

/-- 'hyglaw14.ExphJoins', WHERE WHAT IT READS IS OF BULK AT MOST 1048576: true; the input reads as it did. -/
def exphJoinsUptoRow : OpenClaim := { program := "ytcinfkbdmjnjlaagreatdoor", sum := "59acc015961f67d230682bcec7fd5908c346668e2b5651cece2ef5453be2f5a5", func := "hygrometer/hyglaw14.ExphJoins", spec := "exphJoins", inPlace := ["internal/abi.NoEscape", "internal/reflectlite.ValueOf", "(internal/reflectlite.Value).Type", "(internal/reflectlite.Value).IsNil", "internal/reflectlite.TypeOf", "(internal/reflectlite.Value).Elem", "(internal/reflectlite.Value).Set", "internal/bytealg.MakeNoZero"], unfollowed := true, recurses := true, named := ["errors.errorType"], apart := false, laid := [("errors.errorType", laid_errors_errorType)], narrowed := true }
def ExphJoinsUptoSaid : Prop := exphJoinsUptoRow.holds Tryz.pinned (OpenSpec.upto exphJoinsSpec)

/-- 'hyglaw14.ExphReads', WHERE WHAT IT READS IS OF BULK AT MOST 1048576: true; the input reads as it did. -/
def exphReadsUptoRow : OpenClaim := { program := "ytcinfkbdmjnjlaagreatdoor", sum := "59acc015961f67d230682bcec7fd5908c346668e2b5651cece2ef5453be2f5a5", func := "hygrometer/hyglaw14.ExphReads", spec := "exphReads", inPlace := ["internal/abi.NoEscape", "internal/reflectlite.ValueOf", "(internal/reflectlite.Value).Type", "(internal/reflectlite.Value).IsNil", "internal/reflectlite.TypeOf", "(internal/reflectlite.Value).Elem", "(internal/reflectlite.Value).Set", "internal/bytealg.MakeNoZero"], unfollowed := true, recurses := true, named := ["errors.errorType"], apart := false, laid := [("errors.errorType", laid_errors_errorType)], narrowed := true }
def ExphReadsUptoSaid : Prop := exphReadsUptoRow.holds Tryz.pinned (OpenSpec.upto exphReadsSpec)

/-- 'hyglaw14.ExphDeep', WHERE WHAT IT READS IS OF BULK AT MOST 1048576: true; the input reads as it did. -/
def exphDeepUptoRow : OpenClaim := { program := "ytcinfkbdmjnjlaagreatdoor", sum := "59acc015961f67d230682bcec7fd5908c346668e2b5651cece2ef5453be2f5a5", func := "hygrometer/hyglaw14.ExphDeep", spec := "exphDeep", inPlace := ["internal/abi.NoEscape", "internal/reflectlite.ValueOf", "(internal/reflectlite.Value).Type", "(internal/reflectlite.Value).IsNil", "internal/reflectlite.TypeOf", "(internal/reflectlite.Value).Elem", "(internal/reflectlite.Value).Set", "internal/bytealg.MakeNoZero"], unfollowed := true, recurses := true, named := ["errors.errorType"], apart := false, laid := [("errors.errorType", laid_errors_errorType)], narrowed := true }
def ExphDeepUptoSaid : Prop := exphDeepUptoRow.holds Tryz.pinned (OpenSpec.upto exphDeepSpec)

/-- 'hyglaw14.ExphSame', WHERE WHAT IT READS IS OF BULK AT MOST 1048576: true; the input reads as it did. -/
def exphSameUptoRow : OpenClaim := { program := "ytcinfkbdmjnjlaagreatdoor", sum := "59acc015961f67d230682bcec7fd5908c346668e2b5651cece2ef5453be2f5a5", func := "hygrometer/hyglaw14.ExphSame", spec := "exphSame", inPlace := ["internal/abi.NoEscape", "internal/reflectlite.ValueOf", "(internal/reflectlite.Value).Type", "(internal/reflectlite.Value).IsNil", "internal/reflectlite.TypeOf", "(internal/reflectlite.Value).Elem", "(internal/reflectlite.Value).Set", "internal/bytealg.MakeNoZero"], unfollowed := true, recurses := true, named := ["errors.errorType"], loops := true, apart := false, laid := [("errors.errorType", laid_errors_errorType)], narrowed := true }
def ExphSameUptoSaid : Prop := exphSameUptoRow.holds Tryz.pinned (OpenSpec.upto exphSameSpec)

/-- 'hyglaw14.ExphOthers', WHERE WHAT IT READS IS OF BULK AT MOST 1048576: true; the input reads as it did. -/
def exphOthersUptoRow : OpenClaim := { program := "ytcinfkbdmjnjlaagreatdoor", sum := "59acc015961f67d230682bcec7fd5908c346668e2b5651cece2ef5453be2f5a5", func := "hygrometer/hyglaw14.ExphOthers", spec := "exphOthers", inPlace := ["internal/abi.NoEscape", "internal/reflectlite.ValueOf", "(internal/reflectlite.Value).Type", "(internal/reflectlite.Value).IsNil", "internal/reflectlite.TypeOf", "(internal/reflectlite.Value).Elem", "(internal/reflectlite.Value).Set", "internal/bytealg.MakeNoZero"], unfollowed := true, recurses := true, named := ["errors.errorType"], apart := false, laid := [("errors.errorType", laid_errors_errorType)], narrowed := true }
def ExphOthersUptoSaid : Prop := exphOthersUptoRow.holds Tryz.pinned (OpenSpec.upto exphOthersSpec)

/-- 'hyglaw14.ExphBack', WHERE WHAT IT READS IS OF BULK AT MOST 1048576: true; the input reads as it did. -/
def exphBackUptoRow : OpenClaim := { program := "ytcinfkbdmjnjlaagreatdoor", sum := "59acc015961f67d230682bcec7fd5908c346668e2b5651cece2ef5453be2f5a5", func := "hygrometer/hyglaw14.ExphBack", spec := "exphBack", inPlace := ["internal/abi.NoEscape", "internal/reflectlite.ValueOf", "(internal/reflectlite.Value).Type", "(internal/reflectlite.Value).IsNil", "internal/reflectlite.TypeOf", "(internal/reflectlite.Value).Elem", "(internal/reflectlite.Value).Set", "internal/bytealg.MakeNoZero"], unfollowed := true, recurses := true, named := ["errors.errorType"], loops := true, apart := false, laid := [("errors.errorType", laid_errors_errorType)], narrowed := true }
def ExphBackUptoSaid : Prop := exphBackUptoRow.holds Tryz.pinned (OpenSpec.upto exphBackSpec)

/-- 'hyglaw14.ExphTwice', WHERE WHAT IT READS IS OF BULK AT MOST 1048576: true; the input reads as it did. -/
def exphTwiceUptoRow : OpenClaim := { program := "ytcinfkbdmjnjlaagreatdoor", sum := "59acc015961f67d230682bcec7fd5908c346668e2b5651cece2ef5453be2f5a5", func := "hygrometer/hyglaw14.ExphTwice", spec := "exphTwice", inPlace := ["internal/abi.NoEscape", "internal/reflectlite.ValueOf", "(internal/reflectlite.Value).Type", "(internal/reflectlite.Value).IsNil", "internal/reflectlite.TypeOf", "(internal/reflectlite.Value).Elem", "(internal/reflectlite.Value).Set", "internal/bytealg.MakeNoZero"], unfollowed := true, recurses := true, named := ["errors.errorType"], apart := false, laid := [("errors.errorType", laid_errors_errorType)], narrowed := true }
def ExphTwiceUptoSaid : Prop := exphTwiceUptoRow.holds Tryz.pinned (OpenSpec.upto exphTwiceSpec)

/-- 'hyglaw14.ExphWrites', WHERE WHAT IT READS IS OF BULK AT MOST 1048576: true; the input reads as it did. -/
def exphWritesUptoRow : OpenClaim := { program := "ytcinfkbdmjnjlaagreatdoor", sum := "59acc015961f67d230682bcec7fd5908c346668e2b5651cece2ef5453be2f5a5", func := "hygrometer/hyglaw14.ExphWrites", spec := "exphWrites", inPlace := ["internal/abi.NoEscape", "internal/reflectlite.ValueOf", "(internal/reflectlite.Value).Type", "(internal/reflectlite.Value).IsNil", "internal/reflectlite.TypeOf", "(internal/reflectlite.Value).Elem", "(internal/reflectlite.Value).Set", "internal/bytealg.MakeNoZero"], unfollowed := true, recurses := true, named := ["errors.errorType"], loops := true, apart := false, laid := [("errors.errorType", laid_errors_errorType)], narrowed := true }
def ExphWritesUptoSaid : Prop := exphWritesUptoRow.holds Tryz.pinned (OpenSpec.upto exphWritesSpec)

end Rows
end Go.Proofs.YtcinfkbdmjnjlaaGreatDoor
