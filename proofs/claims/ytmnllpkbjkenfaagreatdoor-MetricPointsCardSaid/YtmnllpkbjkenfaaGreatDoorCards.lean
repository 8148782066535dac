/-
  DERIVED. GIVEN WITH THE SEED: THE CARDS: each row of YtmnllpkbjkenfaaGreatDoorRows.lean that lists a variable, with what it lists TIED to the program's text (the seventh form; the later family's looks); each row that meets fmt, with fmt's text TOLD by the authors' own Lean function (tested against real Go, not proved from fmt's source: count such statements apart). THE CARD IS WHAT COUNTS. Prove the row's statement (the work); the ties are given (YtmnllpkbjkenfaaGreatDoorTie.lean); close each card by the builder's one call (the guide's Derived/Test/ToyasCard.lean, 'card_holds'). Laid BY PROGRAM, IN A SANDBOX (cutbox-door.mjs). By AI agents, Wed Nov 11 2026. No macro, syntax, notation, axiom, sorry.
-/
import Derived.Test.YtmnllpkbjkenfaaGreatDoorRows
import GoSem.ClaimSeven
namespace Go.Proofs.YtmnllpkbjkenfaaGreatDoor
namespace Rows

/-- THE TIED CARD OF 'hyglaw16.MetricJoins'. -/
def metricJoinsCard : Claim7 := { stood := { row := metricJoinsRow, standIns := [], harness := (true, "e157e3f1602c47a644458114e428f793f4d1ed70c6c23e39ce3eef0a8cdd8230"), looks := true }, kinds := [], alts := [], laidByText := true, laidKinds := [.handle], laidTests := true, laidLooks := .later }
def MetricJoinsCardSaid : Prop := Claim7.holds Tryz.pinned (.plain (OpenSpec.ofChange metricJoinsSpec)) metricJoinsCard

/-- THE TIED CARD OF 'hyglaw16.MetricPoints'. -/
def metricPointsCard : Claim7 := { stood := { row := metricPointsRow, standIns := [], harness := (true, "e157e3f1602c47a644458114e428f793f4d1ed70c6c23e39ce3eef0a8cdd8230"), looks := true }, kinds := [], alts := [], laidByText := true, laidKinds := [.handle], laidTests := true, laidLooks := .later }
def MetricPointsCardSaid : Prop := Claim7.holds Tryz.pinned (.plain (OpenSpec.ofChange metricPointsSpec)) metricPointsCard

/-- THE TIED CARD OF 'hyglaw16.MetricReads'. -/
def metricReadsCard : Claim7 := { stood := { row := metricReadsRow, standIns := [], harness := (true, "e157e3f1602c47a644458114e428f793f4d1ed70c6c23e39ce3eef0a8cdd8230"), looks := true }, kinds := [], alts := [], laidByText := true, laidKinds := [.handle], laidTests := true, laidLooks := .later }
def MetricReadsCardSaid : Prop := Claim7.holds Tryz.pinned (.plain (OpenSpec.ofChange metricReadsSpec)) metricReadsCard

/-- THE TIED CARD OF 'hyglaw16.MetricDeep'. -/
def metricDeepCard : Claim7 := { stood := { row := metricDeepRow, standIns := [], harness := (true, "e157e3f1602c47a644458114e428f793f4d1ed70c6c23e39ce3eef0a8cdd8230"), looks := true }, kinds := [], alts := [], laidByText := true, laidKinds := [.handle], laidTests := true, laidLooks := .later }
def MetricDeepCardSaid : Prop := Claim7.holds Tryz.pinned (.plain (OpenSpec.ofChange metricDeepSpec)) metricDeepCard

/-- THE TIED CARD OF 'hyglaw16.MetricWrites'. -/
def metricWritesCard : Claim7 := { stood := { row := metricWritesRow, standIns := [], harness := (true, "e157e3f1602c47a644458114e428f793f4d1ed70c6c23e39ce3eef0a8cdd8230"), looks := true }, kinds := [], alts := [], laidByText := true, laidKinds := [.handle], laidTests := true, laidLooks := .later }
def MetricWritesCardSaid : Prop := Claim7.holds Tryz.pinned (.plain (OpenSpec.ofChange metricWritesSpec)) metricWritesCard

/-- THE TIED CARD OF 'hyglaw16.MetricSame'. -/
def metricSameCard : Claim7 := { stood := { row := metricSameRow, standIns := [], harness := (true, "e157e3f1602c47a644458114e428f793f4d1ed70c6c23e39ce3eef0a8cdd8230"), looks := true }, kinds := [], alts := [], laidByText := true, laidKinds := [.handle], laidTests := true, laidLooks := .later }
def MetricSameCardSaid : Prop := Claim7.holds Tryz.pinned (.plain (OpenSpec.ofChange metricSameSpec)) metricSameCard

/-- THE TIED CARD OF 'hyglaw16.MetricBack'. -/
def metricBackCard : Claim7 := { stood := { row := metricBackRow, standIns := [], harness := (true, "e157e3f1602c47a644458114e428f793f4d1ed70c6c23e39ce3eef0a8cdd8230"), looks := true }, kinds := [], alts := [], laidByText := true, laidKinds := [.handle], laidTests := true, laidLooks := .later }
def MetricBackCardSaid : Prop := Claim7.holds Tryz.pinned (.plain (OpenSpec.ofChange metricBackSpec)) metricBackCard

/-- THE TIED CARD OF 'hyglaw16.MetricTwice'. -/
def metricTwiceCard : Claim7 := { stood := { row := metricTwiceRow, standIns := [], harness := (true, "e157e3f1602c47a644458114e428f793f4d1ed70c6c23e39ce3eef0a8cdd8230"), looks := true }, kinds := [], alts := [], laidByText := true, laidKinds := [.handle], laidTests := true, laidLooks := .later }
def MetricTwiceCardSaid : Prop := Claim7.holds Tryz.pinned (.plain (OpenSpec.ofChange metricTwiceSpec)) metricTwiceCard

/-- THE TIED CARD OF 'hyglaw16.MetricOthers'. -/
def metricOthersCard : Claim7 := { stood := { row := metricOthersRow, standIns := [], harness := (true, "e157e3f1602c47a644458114e428f793f4d1ed70c6c23e39ce3eef0a8cdd8230"), looks := true }, kinds := [], alts := [], laidByText := true, laidKinds := [.handle], laidTests := true, laidLooks := .later }
def MetricOthersCardSaid : Prop := Claim7.holds Tryz.pinned (.plain (OpenSpec.ofChange metricOthersSpec)) metricOthersCard

/-- THE SECOND FORM's CARD OF 'hyglaw16.MetricJoins'. -/
def metricJoinsUptoCard : Claim7 := { stood := { row := metricJoinsUptoRow, standIns := [], harness := (true, "e157e3f1602c47a644458114e428f793f4d1ed70c6c23e39ce3eef0a8cdd8230"), looks := true }, kinds := [], alts := [], laidByText := true, laidKinds := [.handle], laidTests := true, laidLooks := .later }
def MetricJoinsUptoCardSaid : Prop := Claim7.holds Tryz.pinned (.plain (OpenSpec.upto metricJoinsSpec)) metricJoinsUptoCard

/-- THE SECOND FORM's CARD OF 'hyglaw16.MetricPoints'. -/
def metricPointsUptoCard : Claim7 := { stood := { row := metricPointsUptoRow, standIns := [], harness := (true, "e157e3f1602c47a644458114e428f793f4d1ed70c6c23e39ce3eef0a8cdd8230"), looks := true }, kinds := [], alts := [], laidByText := true, laidKinds := [.handle], laidTests := true, laidLooks := .later }
def MetricPointsUptoCardSaid : Prop := Claim7.holds Tryz.pinned (.plain (OpenSpec.upto metricPointsSpec)) metricPointsUptoCard

/-- THE SECOND FORM's CARD OF 'hyglaw16.MetricReads'. -/
def metricReadsUptoCard : Claim7 := { stood := { row := metricReadsUptoRow, standIns := [], harness := (true, "e157e3f1602c47a644458114e428f793f4d1ed70c6c23e39ce3eef0a8cdd8230"), looks := true }, kinds := [], alts := [], laidByText := true, laidKinds := [.handle], laidTests := true, laidLooks := .later }
def MetricReadsUptoCardSaid : Prop := Claim7.holds Tryz.pinned (.plain (OpenSpec.upto metricReadsSpec)) metricReadsUptoCard

/-- THE SECOND FORM's CARD OF 'hyglaw16.MetricDeep'. -/
def metricDeepUptoCard : Claim7 := { stood := { row := metricDeepUptoRow, standIns := [], harness := (true, "e157e3f1602c47a644458114e428f793f4d1ed70c6c23e39ce3eef0a8cdd8230"), looks := true }, kinds := [], alts := [], laidByText := true, laidKinds := [.handle], laidTests := true, laidLooks := .later }
def MetricDeepUptoCardSaid : Prop := Claim7.holds Tryz.pinned (.plain (OpenSpec.upto metricDeepSpec)) metricDeepUptoCard

/-- THE SECOND FORM's CARD OF 'hyglaw16.MetricWrites'. -/
def metricWritesUptoCard : Claim7 := { stood := { row := metricWritesUptoRow, standIns := [], harness := (true, "e157e3f1602c47a644458114e428f793f4d1ed70c6c23e39ce3eef0a8cdd8230"), looks := true }, kinds := [], alts := [], laidByText := true, laidKinds := [.handle], laidTests := true, laidLooks := .later }
def MetricWritesUptoCardSaid : Prop := Claim7.holds Tryz.pinned (.plain (OpenSpec.upto metricWritesSpec)) metricWritesUptoCard

/-- THE SECOND FORM's CARD OF 'hyglaw16.MetricSame'. -/
def metricSameUptoCard : Claim7 := { stood := { row := metricSameUptoRow, standIns := [], harness := (true, "e157e3f1602c47a644458114e428f793f4d1ed70c6c23e39ce3eef0a8cdd8230"), looks := true }, kinds := [], alts := [], laidByText := true, laidKinds := [.handle], laidTests := true, laidLooks := .later }
def MetricSameUptoCardSaid : Prop := Claim7.holds Tryz.pinned (.plain (OpenSpec.upto metricSameSpec)) metricSameUptoCard

/-- THE SECOND FORM's CARD OF 'hyglaw16.MetricBack'. -/
def metricBackUptoCard : Claim7 := { stood := { row := metricBackUptoRow, standIns := [], harness := (true, "e157e3f1602c47a644458114e428f793f4d1ed70c6c23e39ce3eef0a8cdd8230"), looks := true }, kinds := [], alts := [], laidByText := true, laidKinds := [.handle], laidTests := true, laidLooks := .later }
def MetricBackUptoCardSaid : Prop := Claim7.holds Tryz.pinned (.plain (OpenSpec.upto metricBackSpec)) metricBackUptoCard

/-- THE SECOND FORM's CARD OF 'hyglaw16.MetricTwice'. -/
def metricTwiceUptoCard : Claim7 := { stood := { row := metricTwiceUptoRow, standIns := [], harness := (true, "e157e3f1602c47a644458114e428f793f4d1ed70c6c23e39ce3eef0a8cdd8230"), looks := true }, kinds := [], alts := [], laidByText := true, laidKinds := [.handle], laidTests := true, laidLooks := .later }
def MetricTwiceUptoCardSaid : Prop := Claim7.holds Tryz.pinned (.plain (OpenSpec.upto metricTwiceSpec)) metricTwiceUptoCard

/-- THE SECOND FORM's CARD OF 'hyglaw16.MetricOthers'. -/
def metricOthersUptoCard : Claim7 := { stood := { row := metricOthersUptoRow, standIns := [], harness := (true, "e157e3f1602c47a644458114e428f793f4d1ed70c6c23e39ce3eef0a8cdd8230"), looks := true }, kinds := [], alts := [], laidByText := true, laidKinds := [.handle], laidTests := true, laidLooks := .later }
def MetricOthersUptoCardSaid : Prop := Claim7.holds Tryz.pinned (.plain (OpenSpec.upto metricOthersSpec)) metricOthersUptoCard
end Rows
end Go.Proofs.YtmnllpkbjkenfaaGreatDoor
