/-
  NARROWER THAN 'FOR EVERY INPUT', by the rows' own cells (each row's printed sentence says how): NumberWrites: loops, laid · NumberDeep: laid · HistJoins: laid · HistPacked: laid · HistReads: laid · HistDeep: laid · HistWrites: loops, laid · HistSame: loops, laid.
  DERIVED. THE GIVEN ROWS OF THIS SEAT. 8 by the template 'for every input the law returns true; each argument reads behind the call as it read before'; 0 by the template 'total and deterministic' (their statements: YtoihfgdjmeeelaaGreatDoorTotals.lean).
  GIVEN WITH THE SEED: the statements are not yours to turn. If you find one false, say at which input.
  Laid BY PROGRAM, IN A SANDBOX (cutbox-rows.mjs): the forced cells as the released guide's own fill.sh prints them over the translation c5eecd3e233f5b58… (all of the seat's roots in one cut). By AI agents, Wed Nov 11 2026. No macro, syntax, notation, axiom, sorry.
-/
import Derived.Test.YtoihfgdjmeeelaaGreatDoorChecked
import GoSem.Claim
import GoSem.ClaimJoined
import GoSem.ClaimMapViews
import Derived.JoinedTies
import Derived.KernelRfl
namespace Go.Proofs.YtoihfgdjmeeelaaGreatDoor
/- THE CELL 'sum', in the pinned program and in every row, IS THE sha256 OF THE DUMP (.gsa) THAT YtoihfgdjmeeelaaGreatDoorProg.lean LOADS. Nothing in Lean hashes anything: it is a label: what it is worth is what the hold of that sum in a sandbox is worth. -/
noncomputable def Tryz.pinned : Pinned := { name := "ytoihfgdjmeeelaagreatdoor", sum := "c5eecd3e233f5b58caeeaa229579fa3e508b896cceb10ff0f2f7fc6a79c0a873", checked := Tryz.checked }
namespace Rows
def none {H : Type} : Left H := { results := [], args := [] }

/- WHAT THE LISTED PACKAGE-LEVEL VARIABLES READ AS WHEN THE CALL BEGINS. Each datum BY PROGRAM (the guide's laid-datum.mjs) off the statement by which the dump's own 'gosem.cut.vars' lays the variable. In a bare row this is a premise. The card (YtoihfgdjmeeelaaGreatDoorCards.lean) ties it to the program's text. -/
def laid_errors_errorType {H : Type} : DataW H := .iface "internal/reflectlite.rtype" (.agg [.ptr (.lit (.string [101, 114, 114, 111, 114]))])

/-- 'hyglaw12.NumberWrites': WHATEVER THE INPUT: true; the input reads as it did. -/
def numberWritesSpec : ChangeSpec := { name := "numberWrites", fn := fun _ => fun
  | [d1, d2] => { results := [.lit (.bool true)], args := [d1, d2] }
  | _ => none }
def numberWritesRow : OpenClaim := { program := "ytoihfgdjmeeelaagreatdoor", sum := "c5eecd3e233f5b58caeeaa229579fa3e508b896cceb10ff0f2f7fc6a79c0a873", func := "hygrometer/hyglaw12.NumberWrites", spec := "numberWrites", inPlace := ["internal/abi.NoEscape", "internal/reflectlite.ValueOf", "(internal/reflectlite.Value).Type", "(internal/reflectlite.Value).IsNil", "internal/reflectlite.TypeOf", "(internal/reflectlite.Value).Elem", "(internal/reflectlite.Value).Set", "internal/bytealg.MakeNoZero"], unfollowed := true, recurses := true, named := ["errors.errorType"], loops := true, apart := false, laid := [("errors.errorType", laid_errors_errorType)] }
def NumberWritesSaid : Prop := numberWritesRow.holds Tryz.pinned (OpenSpec.ofChange numberWritesSpec)

/-- ITS FALSE NEIGHBOUR: 'it returns false'. Refute it at one input. -/
def numberWritesWrong : ChangeSpec := { name := "numberWrites", fn := fun _ => fun
  | [d1, d2] => { results := [.lit (.bool false)], args := [d1, d2] }
  | _ => none }
def NumberWritesWrongFalsely : Prop := numberWritesRow.holds Tryz.pinned (OpenSpec.ofChange numberWritesWrong)

/-- 'hyglaw12.NumberDeep': WHATEVER THE INPUT: true; the input reads as it did. -/
def numberDeepSpec : ChangeSpec := { name := "numberDeep", fn := fun _ => fun
  | [d1, d2] => { results := [.lit (.bool true)], args := [d1, d2] }
  | _ => none }
def numberDeepRow : OpenClaim := { program := "ytoihfgdjmeeelaagreatdoor", sum := "c5eecd3e233f5b58caeeaa229579fa3e508b896cceb10ff0f2f7fc6a79c0a873", func := "hygrometer/hyglaw12.NumberDeep", spec := "numberDeep", inPlace := ["internal/abi.NoEscape", "internal/reflectlite.ValueOf", "(internal/reflectlite.Value).Type", "(internal/reflectlite.Value).IsNil", "internal/reflectlite.TypeOf", "(internal/reflectlite.Value).Elem", "(internal/reflectlite.Value).Set", "internal/bytealg.MakeNoZero"], unfollowed := true, recurses := true, named := ["errors.errorType"], apart := false, laid := [("errors.errorType", laid_errors_errorType)] }
def NumberDeepSaid : Prop := numberDeepRow.holds Tryz.pinned (OpenSpec.ofChange numberDeepSpec)

/-- ITS FALSE NEIGHBOUR: 'it returns false'. Refute it at one input. -/
def numberDeepWrong : ChangeSpec := { name := "numberDeep", fn := fun _ => fun
  | [d1, d2] => { results := [.lit (.bool false)], args := [d1, d2] }
  | _ => none }
def NumberDeepWrongFalsely : Prop := numberDeepRow.holds Tryz.pinned (OpenSpec.ofChange numberDeepWrong)

/-- 'hyglaw13.HistJoins': WHATEVER THE INPUT: true; the input reads as it did. -/
def histJoinsSpec : ChangeSpec := { name := "histJoins", fn := fun _ => fun
  | [d1, d2, d3] => { results := [.lit (.bool true)], args := [d1, d2, d3] }
  | _ => none }
def histJoinsRow : OpenClaim := { program := "ytoihfgdjmeeelaagreatdoor", sum := "c5eecd3e233f5b58caeeaa229579fa3e508b896cceb10ff0f2f7fc6a79c0a873", func := "hygrometer/hyglaw13.HistJoins", spec := "histJoins", inPlace := ["internal/abi.NoEscape", "internal/reflectlite.ValueOf", "(internal/reflectlite.Value).Type", "(internal/reflectlite.Value).IsNil", "internal/reflectlite.TypeOf", "(internal/reflectlite.Value).Elem", "(internal/reflectlite.Value).Set", "internal/bytealg.MakeNoZero"], unfollowed := true, recurses := true, named := ["errors.errorType"], apart := false, laid := [("errors.errorType", laid_errors_errorType)] }
def HistJoinsSaid : Prop := histJoinsRow.holds Tryz.pinned (OpenSpec.ofChange histJoinsSpec)

/-- ITS FALSE NEIGHBOUR: 'it returns false'. Refute it at one input. -/
def histJoinsWrong : ChangeSpec := { name := "histJoins", fn := fun _ => fun
  | [d1, d2, d3] => { results := [.lit (.bool false)], args := [d1, d2, d3] }
  | _ => none }
def HistJoinsWrongFalsely : Prop := histJoinsRow.holds Tryz.pinned (OpenSpec.ofChange histJoinsWrong)

/-- 'hyglaw13.HistPacked': WHATEVER THE INPUT: true; the input reads as it did. -/
def histPackedSpec : ChangeSpec := { name := "histPacked", fn := fun _ => fun
  | [d1, d2] => { results := [.lit (.bool true)], args := [d1, d2] }
  | _ => none }
def histPackedRow : OpenClaim := { program := "ytoihfgdjmeeelaagreatdoor", sum := "c5eecd3e233f5b58caeeaa229579fa3e508b896cceb10ff0f2f7fc6a79c0a873", func := "hygrometer/hyglaw13.HistPacked", spec := "histPacked", inPlace := ["internal/abi.NoEscape", "internal/reflectlite.ValueOf", "(internal/reflectlite.Value).Type", "(internal/reflectlite.Value).IsNil", "internal/reflectlite.TypeOf", "(internal/reflectlite.Value).Elem", "(internal/reflectlite.Value).Set", "internal/bytealg.MakeNoZero"], unfollowed := true, recurses := true, named := ["errors.errorType"], apart := false, laid := [("errors.errorType", laid_errors_errorType)] }
def HistPackedSaid : Prop := histPackedRow.holds Tryz.pinned (OpenSpec.ofChange histPackedSpec)

/-- ITS FALSE NEIGHBOUR: 'it returns false'. Refute it at one input. -/
def histPackedWrong : ChangeSpec := { name := "histPacked", fn := fun _ => fun
  | [d1, d2] => { results := [.lit (.bool false)], args := [d1, d2] }
  | _ => none }
def HistPackedWrongFalsely : Prop := histPackedRow.holds Tryz.pinned (OpenSpec.ofChange histPackedWrong)

/-- 'hyglaw13.HistReads': WHATEVER THE INPUT: true; the input reads as it did. -/
def histReadsSpec : ChangeSpec := { name := "histReads", fn := fun _ => fun
  | [d1, d2] => { results := [.lit (.bool true)], args := [d1, d2] }
  | _ => none }
def histReadsRow : OpenClaim := { program := "ytoihfgdjmeeelaagreatdoor", sum := "c5eecd3e233f5b58caeeaa229579fa3e508b896cceb10ff0f2f7fc6a79c0a873", func := "hygrometer/hyglaw13.HistReads", spec := "histReads", inPlace := ["internal/abi.NoEscape", "internal/reflectlite.ValueOf", "(internal/reflectlite.Value).Type", "(internal/reflectlite.Value).IsNil", "internal/reflectlite.TypeOf", "(internal/reflectlite.Value).Elem", "(internal/reflectlite.Value).Set", "internal/bytealg.MakeNoZero"], unfollowed := true, recurses := true, named := ["errors.errorType"], apart := false, laid := [("errors.errorType", laid_errors_errorType)] }
def HistReadsSaid : Prop := histReadsRow.holds Tryz.pinned (OpenSpec.ofChange histReadsSpec)

/-- ITS FALSE NEIGHBOUR: 'it returns false'. Refute it at one input. -/
def histReadsWrong : ChangeSpec := { name := "histReads", fn := fun _ => fun
  | [d1, d2] => { results := [.lit (.bool false)], args := [d1, d2] }
  | _ => none }
def HistReadsWrongFalsely : Prop := histReadsRow.holds Tryz.pinned (OpenSpec.ofChange histReadsWrong)

/-- 'hyglaw13.HistDeep': WHATEVER THE INPUT: true; the input reads as it did. -/
def histDeepSpec : ChangeSpec := { name := "histDeep", fn := fun _ => fun
  | [d1, d2] => { results := [.lit (.bool true)], args := [d1, d2] }
  | _ => none }
def histDeepRow : OpenClaim := { program := "ytoihfgdjmeeelaagreatdoor", sum := "c5eecd3e233f5b58caeeaa229579fa3e508b896cceb10ff0f2f7fc6a79c0a873", func := "hygrometer/hyglaw13.HistDeep", spec := "histDeep", inPlace := ["internal/abi.NoEscape", "internal/reflectlite.ValueOf", "(internal/reflectlite.Value).Type", "(internal/reflectlite.Value).IsNil", "internal/reflectlite.TypeOf", "(internal/reflectlite.Value).Elem", "(internal/reflectlite.Value).Set", "internal/bytealg.MakeNoZero"], unfollowed := true, recurses := true, named := ["errors.errorType"], apart := false, laid := [("errors.errorType", laid_errors_errorType)] }
def HistDeepSaid : Prop := histDeepRow.holds Tryz.pinned (OpenSpec.ofChange histDeepSpec)

/-- ITS FALSE NEIGHBOUR: 'it returns false'. Refute it at one input. -/
def histDeepWrong : ChangeSpec := { name := "histDeep", fn := fun _ => fun
  | [d1, d2] => { results := [.lit (.bool false)], args := [d1, d2] }
  | _ => none }
def HistDeepWrongFalsely : Prop := histDeepRow.holds Tryz.pinned (OpenSpec.ofChange histDeepWrong)

/-- 'hyglaw13.HistWrites': WHATEVER THE INPUT: true; the input reads as it did. -/
def histWritesSpec : ChangeSpec := { name := "histWrites", fn := fun _ => fun
  | [d1, d2] => { results := [.lit (.bool true)], args := [d1, d2] }
  | _ => none }
def histWritesRow : OpenClaim := { program := "ytoihfgdjmeeelaagreatdoor", sum := "c5eecd3e233f5b58caeeaa229579fa3e508b896cceb10ff0f2f7fc6a79c0a873", func := "hygrometer/hyglaw13.HistWrites", spec := "histWrites", inPlace := ["internal/abi.NoEscape", "internal/reflectlite.ValueOf", "(internal/reflectlite.Value).Type", "(internal/reflectlite.Value).IsNil", "internal/reflectlite.TypeOf", "(internal/reflectlite.Value).Elem", "(internal/reflectlite.Value).Set", "internal/bytealg.MakeNoZero"], unfollowed := true, recurses := true, named := ["errors.errorType"], loops := true, apart := false, laid := [("errors.errorType", laid_errors_errorType)] }
def HistWritesSaid : Prop := histWritesRow.holds Tryz.pinned (OpenSpec.ofChange histWritesSpec)

/-- ITS FALSE NEIGHBOUR: 'it returns false'. Refute it at one input. -/
def histWritesWrong : ChangeSpec := { name := "histWrites", fn := fun _ => fun
  | [d1, d2] => { results := [.lit (.bool false)], args := [d1, d2] }
  | _ => none }
def HistWritesWrongFalsely : Prop := histWritesRow.holds Tryz.pinned (OpenSpec.ofChange histWritesWrong)

/-- 'hyglaw13.HistSame': WHATEVER THE INPUT: true; the input reads as it did. -/
def histSameSpec : ChangeSpec := { name := "histSame", fn := fun _ => fun
  | [d1, d2] => { results := [.lit (.bool true)], args := [d1, d2] }
  | _ => none }
def histSameRow : OpenClaim := { program := "ytoihfgdjmeeelaagreatdoor", sum := "c5eecd3e233f5b58caeeaa229579fa3e508b896cceb10ff0f2f7fc6a79c0a873", func := "hygrometer/hyglaw13.HistSame", spec := "histSame", inPlace := ["internal/abi.NoEscape", "internal/reflectlite.ValueOf", "(internal/reflectlite.Value).Type", "(internal/reflectlite.Value).IsNil", "internal/reflectlite.TypeOf", "(internal/reflectlite.Value).Elem", "(internal/reflectlite.Value).Set", "internal/bytealg.MakeNoZero"], unfollowed := true, recurses := true, named := ["errors.errorType"], loops := true, apart := false, laid := [("errors.errorType", laid_errors_errorType)] }
def HistSameSaid : Prop := histSameRow.holds Tryz.pinned (OpenSpec.ofChange histSameSpec)

/-- ITS FALSE NEIGHBOUR: 'it returns false'. Refute it at one input. -/
def histSameWrong : ChangeSpec := { name := "histSame", fn := fun _ => fun
  | [d1, d2] => { results := [.lit (.bool false)], args := [d1, d2] }
  | _ => none }
def HistSameWrongFalsely : Prop := histSameRow.holds Tryz.pinned (OpenSpec.ofChange histSameWrong)

/- THE SECOND FORM. 'bulk': how many values and letters a reading holds, each counted each time it is reached (what is shared counts as often as it is met; a slice's spare places count too). A statement '..UptoSaid' is the law's where the arguments, and the package variables that the reading takes, are together of bulk at most 1048576: NARROWER than '..Said'. Prove '..Said' where nothing that the law and all that it calls make is longer than what came in: it says more and counts as full. Else prove '..UptoSaid'. A law counts once. -/
mutual
def uptoBulk {H : Type} : DataW H → Nat
  | .lit (.string bytes) => bytes.length + 1
  | .lit _ => 1
  | .nil => 1
  | .ptr d => uptoBulk d + 1
  | .slice elems spare => uptoBulkAll elems + uptoBulkAll spare + 1
  | .agg parts => uptoBulkAll parts + 1
  | .iface _ d => uptoBulk d + 1
  | .map entries => uptoBulkEntries entries + 1
  | .held _ => 1
def uptoBulkAll {H : Type} : List (DataW H) → Nat
  | [] => 0
  | d :: r => uptoBulk d + uptoBulkAll r
def uptoBulkEntries {H : Type} : List (Lit × DataW H) → Nat
  | [] => 0
  | x :: r => uptoBulkEntry x + uptoBulkEntries r
def uptoBulkEntry {H : Type} : Lit × DataW H → Nat
  | (.string bytes, d) => bytes.length + uptoBulk d + 1
  | (_, d) => uptoBulk d + 1
 end
def uptoSmall : (H : Type) → List (DataW H) → Bool := fun _ ds => decide (uptoBulkAll ds ≤ 1048576)
def OpenSpec.upto (s : _root_.Go.ChangeSpec) : _root_.Go.OpenSpec := { _root_.Go.OpenSpec.ofChange s with cond := some uptoSmall }

/-- 'hyglaw12.NumberWrites', WHERE WHAT IT READS IS OF BULK AT MOST 1048576: true; the input reads as it did. -/
def numberWritesUptoRow : OpenClaim := { program := "ytoihfgdjmeeelaagreatdoor", sum := "c5eecd3e233f5b58caeeaa229579fa3e508b896cceb10ff0f2f7fc6a79c0a873", func := "hygrometer/hyglaw12.NumberWrites", spec := "numberWrites", inPlace := ["internal/abi.NoEscape", "internal/reflectlite.ValueOf", "(internal/reflectlite.Value).Type", "(internal/reflectlite.Value).IsNil", "internal/reflectlite.TypeOf", "(internal/reflectlite.Value).Elem", "(internal/reflectlite.Value).Set", "internal/bytealg.MakeNoZero"], unfollowed := true, recurses := true, named := ["errors.errorType"], loops := true, apart := false, laid := [("errors.errorType", laid_errors_errorType)], narrowed := true }
def NumberWritesUptoSaid : Prop := numberWritesUptoRow.holds Tryz.pinned (OpenSpec.upto numberWritesSpec)

/-- 'hyglaw12.NumberDeep', WHERE WHAT IT READS IS OF BULK AT MOST 1048576: true; the input reads as it did. -/
def numberDeepUptoRow : OpenClaim := { program := "ytoihfgdjmeeelaagreatdoor", sum := "c5eecd3e233f5b58caeeaa229579fa3e508b896cceb10ff0f2f7fc6a79c0a873", func := "hygrometer/hyglaw12.NumberDeep", spec := "numberDeep", inPlace := ["internal/abi.NoEscape", "internal/reflectlite.ValueOf", "(internal/reflectlite.Value).Type", "(internal/reflectlite.Value).IsNil", "internal/reflectlite.TypeOf", "(internal/reflectlite.Value).Elem", "(internal/reflectlite.Value).Set", "internal/bytealg.MakeNoZero"], unfollowed := true, recurses := true, named := ["errors.errorType"], apart := false, laid := [("errors.errorType", laid_errors_errorType)], narrowed := true }
def NumberDeepUptoSaid : Prop := numberDeepUptoRow.holds Tryz.pinned (OpenSpec.upto numberDeepSpec)

/-- 'hyglaw13.HistJoins', WHERE WHAT IT READS IS OF BULK AT MOST 1048576: true; the input reads as it did. -/
def histJoinsUptoRow : OpenClaim := { program := "ytoihfgdjmeeelaagreatdoor", sum := "c5eecd3e233f5b58caeeaa229579fa3e508b896cceb10ff0f2f7fc6a79c0a873", func := "hygrometer/hyglaw13.HistJoins", spec := "histJoins", inPlace := ["internal/abi.NoEscape", "internal/reflectlite.ValueOf", "(internal/reflectlite.Value).Type", "(internal/reflectlite.Value).IsNil", "internal/reflectlite.TypeOf", "(internal/reflectlite.Value).Elem", "(internal/reflectlite.Value).Set", "internal/bytealg.MakeNoZero"], unfollowed := true, recurses := true, named := ["errors.errorType"], apart := false, laid := [("errors.errorType", laid_errors_errorType)], narrowed := true }
def HistJoinsUptoSaid : Prop := histJoinsUptoRow.holds Tryz.pinned (OpenSpec.upto histJoinsSpec)

/-- 'hyglaw13.HistPacked', WHERE WHAT IT READS IS OF BULK AT MOST 1048576: true; the input reads as it did. -/
def histPackedUptoRow : OpenClaim := { program := "ytoihfgdjmeeelaagreatdoor", sum := "c5eecd3e233f5b58caeeaa229579fa3e508b896cceb10ff0f2f7fc6a79c0a873", func := "hygrometer/hyglaw13.HistPacked", spec := "histPacked", inPlace := ["internal/abi.NoEscape", "internal/reflectlite.ValueOf", "(internal/reflectlite.Value).Type", "(internal/reflectlite.Value).IsNil", "internal/reflectlite.TypeOf", "(internal/reflectlite.Value).Elem", "(internal/reflectlite.Value).Set", "internal/bytealg.MakeNoZero"], unfollowed := true, recurses := true, named := ["errors.errorType"], apart := false, laid := [("errors.errorType", laid_errors_errorType)], narrowed := true }
def HistPackedUptoSaid : Prop := histPackedUptoRow.holds Tryz.pinned (OpenSpec.upto histPackedSpec)

/-- 'hyglaw13.HistReads', WHERE WHAT IT READS IS OF BULK AT MOST 1048576: true; the input reads as it did. -/
def histReadsUptoRow : OpenClaim := { program := "ytoihfgdjmeeelaagreatdoor", sum := "c5eecd3e233f5b58caeeaa229579fa3e508b896cceb10ff0f2f7fc6a79c0a873", func := "hygrometer/hyglaw13.HistReads", spec := "histReads", inPlace := ["internal/abi.NoEscape", "internal/reflectlite.ValueOf", "(internal/reflectlite.Value).Type", "(internal/reflectlite.Value).IsNil", "internal/reflectlite.TypeOf", "(internal/reflectlite.Value).Elem", "(internal/reflectlite.Value).Set", "internal/bytealg.MakeNoZero"], unfollowed := true, recurses := true, named := ["errors.errorType"], apart := false, laid := [("errors.errorType", laid_errors_errorType)], narrowed := true }
def HistReadsUptoSaid : Prop := histReadsUptoRow.holds Tryz.pinned (OpenSpec.upto histReadsSpec)

/-- 'hyglaw13.HistDeep', WHERE WHAT IT READS IS OF BULK AT MOST 1048576: true; the input reads as it did. -/
def histDeepUptoRow : OpenClaim := { program := "ytoihfgdjmeeelaagreatdoor", sum := "c5eecd3e233f5b58caeeaa229579fa3e508b896cceb10ff0f2f7fc6a79c0a873", func := "hygrometer/hyglaw13.HistDeep", spec := "histDeep", inPlace := ["internal/abi.NoEscape", "internal/reflectlite.ValueOf", "(internal/reflectlite.Value).Type", "(internal/reflectlite.Value).IsNil", "internal/reflectlite.TypeOf", "(internal/reflectlite.Value).Elem", "(internal/reflectlite.Value).Set", "internal/bytealg.MakeNoZero"], unfollowed := true, recurses := true, named := ["errors.errorType"], apart := false, laid := [("errors.errorType", laid_errors_errorType)], narrowed := true }
def HistDeepUptoSaid : Prop := histDeepUptoRow.holds Tryz.pinned (OpenSpec.upto histDeepSpec)

/-- 'hyglaw13.HistWrites', WHERE WHAT IT READS IS OF BULK AT MOST 1048576: true; the input reads as it did. -/
def histWritesUptoRow : OpenClaim := { program := "ytoihfgdjmeeelaagreatdoor", sum := "c5eecd3e233f5b58caeeaa229579fa3e508b896cceb10ff0f2f7fc6a79c0a873", func := "hygrometer/hyglaw13.HistWrites", spec := "histWrites", inPlace := ["internal/abi.NoEscape", "internal/reflectlite.ValueOf", "(internal/reflectlite.Value).Type", "(internal/reflectlite.Value).IsNil", "internal/reflectlite.TypeOf", "(internal/reflectlite.Value).Elem", "(internal/reflectlite.Value).Set", "internal/bytealg.MakeNoZero"], unfollowed := true, recurses := true, named := ["errors.errorType"], loops := true, apart := false, laid := [("errors.errorType", laid_errors_errorType)], narrowed := true }
def HistWritesUptoSaid : Prop := histWritesUptoRow.holds Tryz.pinned (OpenSpec.upto histWritesSpec)

/-- 'hyglaw13.HistSame', WHERE WHAT IT READS IS OF BULK AT MOST 1048576: true; the input reads as it did. -/
def histSameUptoRow : OpenClaim := { program := "ytoihfgdjmeeelaagreatdoor", sum := "c5eecd3e233f5b58caeeaa229579fa3e508b896cceb10ff0f2f7fc6a79c0a873", func := "hygrometer/hyglaw13.HistSame", spec := "histSame", inPlace := ["internal/abi.NoEscape", "internal/reflectlite.ValueOf", "(internal/reflectlite.Value).Type", "(internal/reflectlite.Value).IsNil", "internal/reflectlite.TypeOf", "(internal/reflectlite.Value).Elem", "(internal/reflectlite.Value).Set", "internal/bytealg.MakeNoZero"], unfollowed := true, recurses := true, named := ["errors.errorType"], loops := true, apart := false, laid := [("errors.errorType", laid_errors_errorType)], narrowed := true }
def HistSameUptoSaid : Prop := histSameUptoRow.holds Tryz.pinned (OpenSpec.upto histSameSpec)

end Rows
end Go.Proofs.YtoihfgdjmeeelaaGreatDoor
