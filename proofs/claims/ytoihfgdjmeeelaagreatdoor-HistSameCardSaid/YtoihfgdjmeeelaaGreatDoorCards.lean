/-
  DERIVED. GIVEN WITH THE SEED: THE CARDS: each row of YtoihfgdjmeeelaaGreatDoorRows.lean that lists a variable, with what it lists TIED to the program's text (the seventh form; the later family's looks); each row that meets fmt, with fmt's text TOLD by the authors' own Lean function (tested against real Go, not proved from fmt's source: count such statements apart). THE CARD IS WHAT COUNTS. Prove the row's statement (the work); the ties are given (YtoihfgdjmeeelaaGreatDoorTie.lean); close each card by the builder's one call (the guide's Derived/Test/ToyasCard.lean, 'card_holds'). Laid BY PROGRAM, IN A SANDBOX (cutbox-door.mjs). By AI agents, Wed Nov 11 2026. No macro, syntax, notation, axiom, sorry.
-/
import Derived.Test.YtoihfgdjmeeelaaGreatDoorRows
import GoSem.ClaimSeven
namespace Go.Proofs.YtoihfgdjmeeelaaGreatDoor
namespace Rows

/-- THE TIED CARD OF 'hyglaw12.NumberWrites'. -/
def numberWritesCard : Claim7 := { stood := { row := numberWritesRow, standIns := [], harness := (true, "e675b7d7d3cf6d3b63f59d2c656e30063d37386f15260d0a9850be9c743c3554"), looks := true }, kinds := [], alts := [], laidByText := true, laidKinds := [.handle], laidTests := true, laidLooks := .later }
def NumberWritesCardSaid : Prop := Claim7.holds Tryz.pinned (.plain (OpenSpec.ofChange numberWritesSpec)) numberWritesCard

/-- THE TIED CARD OF 'hyglaw12.NumberDeep'. -/
def numberDeepCard : Claim7 := { stood := { row := numberDeepRow, standIns := [], harness := (true, "e675b7d7d3cf6d3b63f59d2c656e30063d37386f15260d0a9850be9c743c3554"), looks := true }, kinds := [], alts := [], laidByText := true, laidKinds := [.handle], laidTests := true, laidLooks := .later }
def NumberDeepCardSaid : Prop := Claim7.holds Tryz.pinned (.plain (OpenSpec.ofChange numberDeepSpec)) numberDeepCard

/-- THE TIED CARD OF 'hyglaw13.HistJoins'. -/
def histJoinsCard : Claim7 := { stood := { row := histJoinsRow, standIns := [], harness := (true, "e675b7d7d3cf6d3b63f59d2c656e30063d37386f15260d0a9850be9c743c3554"), looks := true }, kinds := [], alts := [], laidByText := true, laidKinds := [.handle], laidTests := true, laidLooks := .later }
def HistJoinsCardSaid : Prop := Claim7.holds Tryz.pinned (.plain (OpenSpec.ofChange histJoinsSpec)) histJoinsCard

/-- THE TIED CARD OF 'hyglaw13.HistPacked'. -/
def histPackedCard : Claim7 := { stood := { row := histPackedRow, standIns := [], harness := (true, "e675b7d7d3cf6d3b63f59d2c656e30063d37386f15260d0a9850be9c743c3554"), looks := true }, kinds := [], alts := [], laidByText := true, laidKinds := [.handle], laidTests := true, laidLooks := .later }
def HistPackedCardSaid : Prop := Claim7.holds Tryz.pinned (.plain (OpenSpec.ofChange histPackedSpec)) histPackedCard

/-- THE TIED CARD OF 'hyglaw13.HistReads'. -/
def histReadsCard : Claim7 := { stood := { row := histReadsRow, standIns := [], harness := (true, "e675b7d7d3cf6d3b63f59d2c656e30063d37386f15260d0a9850be9c743c3554"), looks := true }, kinds := [], alts := [], laidByText := true, laidKinds := [.handle], laidTests := true, laidLooks := .later }
def HistReadsCardSaid : Prop := Claim7.holds Tryz.pinned (.plain (OpenSpec.ofChange histReadsSpec)) histReadsCard

/-- THE TIED CARD OF 'hyglaw13.HistDeep'. -/
def histDeepCard : Claim7 := { stood := { row := histDeepRow, standIns := [], harness := (true, "e675b7d7d3cf6d3b63f59d2c656e30063d37386f15260d0a9850be9c743c3554"), looks := true }, kinds := [], alts := [], laidByText := true, laidKinds := [.handle], laidTests := true, laidLooks := .later }
def HistDeepCardSaid : Prop := Claim7.holds Tryz.pinned (.plain (OpenSpec.ofChange histDeepSpec)) histDeepCard

/-- THE TIED CARD OF 'hyglaw13.HistWrites'. -/
def histWritesCard : Claim7 := { stood := { row := histWritesRow, standIns := [], harness := (true, "e675b7d7d3cf6d3b63f59d2c656e30063d37386f15260d0a9850be9c743c3554"), looks := true }, kinds := [], alts := [], laidByText := true, laidKinds := [.handle], laidTests := true, laidLooks := .later }
def HistWritesCardSaid : Prop := Claim7.holds Tryz.pinned (.plain (OpenSpec.ofChange histWritesSpec)) histWritesCard

/-- THE TIED CARD OF 'hyglaw13.HistSame'. -/
def histSameCard : Claim7 := { stood := { row := histSameRow, standIns := [], harness := (true, "e675b7d7d3cf6d3b63f59d2c656e30063d37386f15260d0a9850be9c743c3554"), looks := true }, kinds := [], alts := [], laidByText := true, laidKinds := [.handle], laidTests := true, laidLooks := .later }
def HistSameCardSaid : Prop := Claim7.holds Tryz.pinned (.plain (OpenSpec.ofChange histSameSpec)) histSameCard

/-- THE SECOND FORM's CARD OF 'hyglaw12.NumberWrites'. -/
def numberWritesUptoCard : Claim7 := { stood := { row := numberWritesUptoRow, standIns := [], harness := (true, "e675b7d7d3cf6d3b63f59d2c656e30063d37386f15260d0a9850be9c743c3554"), looks := true }, kinds := [], alts := [], laidByText := true, laidKinds := [.handle], laidTests := true, laidLooks := .later }
def NumberWritesUptoCardSaid : Prop := Claim7.holds Tryz.pinned (.plain (OpenSpec.upto numberWritesSpec)) numberWritesUptoCard

/-- THE SECOND FORM's CARD OF 'hyglaw12.NumberDeep'. -/
def numberDeepUptoCard : Claim7 := { stood := { row := numberDeepUptoRow, standIns := [], harness := (true, "e675b7d7d3cf6d3b63f59d2c656e30063d37386f15260d0a9850be9c743c3554"), looks := true }, kinds := [], alts := [], laidByText := true, laidKinds := [.handle], laidTests := true, laidLooks := .later }
def NumberDeepUptoCardSaid : Prop := Claim7.holds Tryz.pinned (.plain (OpenSpec.upto numberDeepSpec)) numberDeepUptoCard

/-- THE SECOND FORM's CARD OF 'hyglaw13.HistJoins'. -/
def histJoinsUptoCard : Claim7 := { stood := { row := histJoinsUptoRow, standIns := [], harness := (true, "e675b7d7d3cf6d3b63f59d2c656e30063d37386f15260d0a9850be9c743c3554"), looks := true }, kinds := [], alts := [], laidByText := true, laidKinds := [.handle], laidTests := true, laidLooks := .later }
def HistJoinsUptoCardSaid : Prop := Claim7.holds Tryz.pinned (.plain (OpenSpec.upto histJoinsSpec)) histJoinsUptoCard

/-- THE SECOND FORM's CARD OF 'hyglaw13.HistPacked'. -/
def histPackedUptoCard : Claim7 := { stood := { row := histPackedUptoRow, standIns := [], harness := (true, "e675b7d7d3cf6d3b63f59d2c656e30063d37386f15260d0a9850be9c743c3554"), looks := true }, kinds := [], alts := [], laidByText := true, laidKinds := [.handle], laidTests := true, laidLooks := .later }
def HistPackedUptoCardSaid : Prop := Claim7.holds Tryz.pinned (.plain (OpenSpec.upto histPackedSpec)) histPackedUptoCard

/-- THE SECOND FORM's CARD OF 'hyglaw13.HistReads'. -/
def histReadsUptoCard : Claim7 := { stood := { row := histReadsUptoRow, standIns := [], harness := (true, "e675b7d7d3cf6d3b63f59d2c656e30063d37386f15260d0a9850be9c743c3554"), looks := true }, kinds := [], alts := [], laidByText := true, laidKinds := [.handle], laidTests := true, laidLooks := .later }
def HistReadsUptoCardSaid : Prop := Claim7.holds Tryz.pinned (.plain (OpenSpec.upto histReadsSpec)) histReadsUptoCard

/-- THE SECOND FORM's CARD OF 'hyglaw13.HistDeep'. -/
def histDeepUptoCard : Claim7 := { stood := { row := histDeepUptoRow, standIns := [], harness := (true, "e675b7d7d3cf6d3b63f59d2c656e30063d37386f15260d0a9850be9c743c3554"), looks := true }, kinds := [], alts := [], laidByText := true, laidKinds := [.handle], laidTests := true, laidLooks := .later }
def HistDeepUptoCardSaid : Prop := Claim7.holds Tryz.pinned (.plain (OpenSpec.upto histDeepSpec)) histDeepUptoCard

/-- THE SECOND FORM's CARD OF 'hyglaw13.HistWrites'. -/
def histWritesUptoCard : Claim7 := { stood := { row := histWritesUptoRow, standIns := [], harness := (true, "e675b7d7d3cf6d3b63f59d2c656e30063d37386f15260d0a9850be9c743c3554"), looks := true }, kinds := [], alts := [], laidByText := true, laidKinds := [.handle], laidTests := true, laidLooks := .later }
def HistWritesUptoCardSaid : Prop := Claim7.holds Tryz.pinned (.plain (OpenSpec.upto histWritesSpec)) histWritesUptoCard

/-- THE SECOND FORM's CARD OF 'hyglaw13.HistSame'. -/
def histSameUptoCard : Claim7 := { stood := { row := histSameUptoRow, standIns := [], harness := (true, "e675b7d7d3cf6d3b63f59d2c656e30063d37386f15260d0a9850be9c743c3554"), looks := true }, kinds := [], alts := [], laidByText := true, laidKinds := [.handle], laidTests := true, laidLooks := .later }
def HistSameUptoCardSaid : Prop := Claim7.holds Tryz.pinned (.plain (OpenSpec.upto histSameSpec)) histSameUptoCard
end Rows
end Go.Proofs.YtoihfgdjmeeelaaGreatDoor
