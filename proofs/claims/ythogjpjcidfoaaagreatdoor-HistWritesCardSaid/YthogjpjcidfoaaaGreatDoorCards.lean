/-
  DERIVED. GIVEN WITH THE SEED: THE CARDS: each row of YthogjpjcidfoaaaGreatDoorRows.lean that lists a variable, with what it lists TIED to the program's text (the seventh form; the later family's looks); each row that meets fmt, with fmt's text TOLD by the authors' own Lean function (tested against real Go, not proved from fmt's source: count such statements apart). THE CARD IS WHAT COUNTS. Prove the row's statement (the work); the ties are given (YthogjpjcidfoaaaGreatDoorTie.lean); close each card by the builder's one call (the guide's Derived/Test/ToyasCard.lean, 'card_holds'). Laid BY PROGRAM, IN A SANDBOX (cutbox-door.mjs). By AI agents, Wed Nov 11 2026. No macro, syntax, notation, axiom, sorry.
-/
import Derived.Test.YthogjpjcidfoaaaGreatDoorRows
import GoSem.ClaimSeven
namespace Go.Proofs.YthogjpjcidfoaaaGreatDoor
namespace Rows

/-- THE TIED CARD OF 'hyglaw12.NumberWrites'. -/
def numberWritesCard : Claim7 := { stood := { row := numberWritesRow, standIns := [], harness := (true, "47172bc1f9cef3b20f1cfab707bdddf533311b8ac55c422bdef816b1176ec56e"), looks := true }, kinds := [], alts := [], laidByText := true, laidKinds := [.handle], laidTests := true, laidLooks := .later }
def NumberWritesCardSaid : Prop := Claim7.holds Tryz.pinned (.plain (OpenSpec.ofChange numberWritesSpec)) numberWritesCard

/-- THE TIED CARD OF 'hyglaw13.HistPacked'. -/
def histPackedCard : Claim7 := { stood := { row := histPackedRow, standIns := [], harness := (true, "47172bc1f9cef3b20f1cfab707bdddf533311b8ac55c422bdef816b1176ec56e"), looks := true }, kinds := [], alts := [], laidByText := true, laidKinds := [.handle], laidTests := true, laidLooks := .later }
def HistPackedCardSaid : Prop := Claim7.holds Tryz.pinned (.plain (OpenSpec.ofChange histPackedSpec)) histPackedCard

/-- THE TIED CARD OF 'hyglaw13.HistReads'. -/
def histReadsCard : Claim7 := { stood := { row := histReadsRow, standIns := [], harness := (true, "47172bc1f9cef3b20f1cfab707bdddf533311b8ac55c422bdef816b1176ec56e"), looks := true }, kinds := [], alts := [], laidByText := true, laidKinds := [.handle], laidTests := true, laidLooks := .later }
def HistReadsCardSaid : Prop := Claim7.holds Tryz.pinned (.plain (OpenSpec.ofChange histReadsSpec)) histReadsCard

/-- THE TIED CARD OF 'hyglaw13.HistWrites'. -/
def histWritesCard : Claim7 := { stood := { row := histWritesRow, standIns := [], harness := (true, "47172bc1f9cef3b20f1cfab707bdddf533311b8ac55c422bdef816b1176ec56e"), looks := true }, kinds := [], alts := [], laidByText := true, laidKinds := [.handle], laidTests := true, laidLooks := .later }
def HistWritesCardSaid : Prop := Claim7.holds Tryz.pinned (.plain (OpenSpec.ofChange histWritesSpec)) histWritesCard

/-- THE TIED CARD OF 'hyglaw13.HistBack'. -/
def histBackCard : Claim7 := { stood := { row := histBackRow, standIns := [], harness := (true, "47172bc1f9cef3b20f1cfab707bdddf533311b8ac55c422bdef816b1176ec56e"), looks := true }, kinds := [], alts := [], laidByText := true, laidKinds := [.handle], laidTests := true, laidLooks := .later }
def HistBackCardSaid : Prop := Claim7.holds Tryz.pinned (.plain (OpenSpec.ofChange histBackSpec)) histBackCard

/-- THE TIED CARD OF 'hyglaw13.HistTwice'. -/
def histTwiceCard : Claim7 := { stood := { row := histTwiceRow, standIns := [], harness := (true, "47172bc1f9cef3b20f1cfab707bdddf533311b8ac55c422bdef816b1176ec56e"), looks := true }, kinds := [], alts := [], laidByText := true, laidKinds := [.handle], laidTests := true, laidLooks := .later }
def HistTwiceCardSaid : Prop := Claim7.holds Tryz.pinned (.plain (OpenSpec.ofChange histTwiceSpec)) histTwiceCard

/-- THE TIED CARD OF 'hyglaw13.HistOthers'. -/
def histOthersCard : Claim7 := { stood := { row := histOthersRow, standIns := [], harness := (true, "47172bc1f9cef3b20f1cfab707bdddf533311b8ac55c422bdef816b1176ec56e"), looks := true }, kinds := [], alts := [], laidByText := true, laidKinds := [.handle], laidTests := true, laidLooks := .later }
def HistOthersCardSaid : Prop := Claim7.holds Tryz.pinned (.plain (OpenSpec.ofChange histOthersSpec)) histOthersCard

/-- THE SECOND FORM's CARD OF 'hyglaw12.NumberWrites'. -/
def numberWritesUptoCard : Claim7 := { stood := { row := numberWritesUptoRow, standIns := [], harness := (true, "47172bc1f9cef3b20f1cfab707bdddf533311b8ac55c422bdef816b1176ec56e"), looks := true }, kinds := [], alts := [], laidByText := true, laidKinds := [.handle], laidTests := true, laidLooks := .later }
def NumberWritesUptoCardSaid : Prop := Claim7.holds Tryz.pinned (.plain (OpenSpec.upto numberWritesSpec)) numberWritesUptoCard

/-- THE SECOND FORM's CARD OF 'hyglaw13.HistPacked'. -/
def histPackedUptoCard : Claim7 := { stood := { row := histPackedUptoRow, standIns := [], harness := (true, "47172bc1f9cef3b20f1cfab707bdddf533311b8ac55c422bdef816b1176ec56e"), looks := true }, kinds := [], alts := [], laidByText := true, laidKinds := [.handle], laidTests := true, laidLooks := .later }
def HistPackedUptoCardSaid : Prop := Claim7.holds Tryz.pinned (.plain (OpenSpec.upto histPackedSpec)) histPackedUptoCard

/-- THE SECOND FORM's CARD OF 'hyglaw13.HistReads'. -/
def histReadsUptoCard : Claim7 := { stood := { row := histReadsUptoRow, standIns := [], harness := (true, "47172bc1f9cef3b20f1cfab707bdddf533311b8ac55c422bdef816b1176ec56e"), looks := true }, kinds := [], alts := [], laidByText := true, laidKinds := [.handle], laidTests := true, laidLooks := .later }
def HistReadsUptoCardSaid : Prop := Claim7.holds Tryz.pinned (.plain (OpenSpec.upto histReadsSpec)) histReadsUptoCard

/-- THE SECOND FORM's CARD OF 'hyglaw13.HistWrites'. -/
def histWritesUptoCard : Claim7 := { stood := { row := histWritesUptoRow, standIns := [], harness := (true, "47172bc1f9cef3b20f1cfab707bdddf533311b8ac55c422bdef816b1176ec56e"), looks := true }, kinds := [], alts := [], laidByText := true, laidKinds := [.handle], laidTests := true, laidLooks := .later }
def HistWritesUptoCardSaid : Prop := Claim7.holds Tryz.pinned (.plain (OpenSpec.upto histWritesSpec)) histWritesUptoCard

/-- THE SECOND FORM's CARD OF 'hyglaw13.HistBack'. -/
def histBackUptoCard : Claim7 := { stood := { row := histBackUptoRow, standIns := [], harness := (true, "47172bc1f9cef3b20f1cfab707bdddf533311b8ac55c422bdef816b1176ec56e"), looks := true }, kinds := [], alts := [], laidByText := true, laidKinds := [.handle], laidTests := true, laidLooks := .later }
def HistBackUptoCardSaid : Prop := Claim7.holds Tryz.pinned (.plain (OpenSpec.upto histBackSpec)) histBackUptoCard

/-- THE SECOND FORM's CARD OF 'hyglaw13.HistTwice'. -/
def histTwiceUptoCard : Claim7 := { stood := { row := histTwiceUptoRow, standIns := [], harness := (true, "47172bc1f9cef3b20f1cfab707bdddf533311b8ac55c422bdef816b1176ec56e"), looks := true }, kinds := [], alts := [], laidByText := true, laidKinds := [.handle], laidTests := true, laidLooks := .later }
def HistTwiceUptoCardSaid : Prop := Claim7.holds Tryz.pinned (.plain (OpenSpec.upto histTwiceSpec)) histTwiceUptoCard

/-- THE SECOND FORM's CARD OF 'hyglaw13.HistOthers'. -/
def histOthersUptoCard : Claim7 := { stood := { row := histOthersUptoRow, standIns := [], harness := (true, "47172bc1f9cef3b20f1cfab707bdddf533311b8ac55c422bdef816b1176ec56e"), looks := true }, kinds := [], alts := [], laidByText := true, laidKinds := [.handle], laidTests := true, laidLooks := .later }
def HistOthersUptoCardSaid : Prop := Claim7.holds Tryz.pinned (.plain (OpenSpec.upto histOthersSpec)) histOthersUptoCard
end Rows
end Go.Proofs.YthogjpjcidfoaaaGreatDoor
