/-
  DERIVED. GIVEN WITH THE SEED: THE CARDS: each row of YtpioginipokfiaaGreatDoorRows.lean that lists a variable, with what it lists TIED to the program's text (the seventh form; the later family's looks); each row that meets fmt, with fmt's text TOLD by the authors' own Lean function (tested against real Go, not proved from fmt's source: count such statements apart). THE CARD IS WHAT COUNTS. Prove the row's statement (the work); the ties are given (YtpioginipokfiaaGreatDoorTie.lean); close each card by the builder's one call (the guide's Derived/Test/ToyasCard.lean, 'card_holds'). Laid BY PROGRAM, IN A SANDBOX (cutbox-door.mjs). By AI agents, Wed Nov 11 2026. No macro, syntax, notation, axiom, sorry.
-/
import Derived.Test.YtpioginipokfiaaGreatDoorRows
import GoSem.ClaimSeven
namespace Go.Proofs.YtpioginipokfiaaGreatDoor
namespace Rows

/-- THE TIED CARD OF 'hyglaw13.HistPacked'. -/
def histPackedCard : Claim7 := { stood := { row := histPackedRow, standIns := [], harness := (true, "58e840e573be7bf21686e8a5f3f8f2c94758d053ed742cc742550c5ca26316de"), looks := true }, kinds := [], alts := [], laidByText := true, laidKinds := [.handle], laidTests := true, laidLooks := .later }
def HistPackedCardSaid : Prop := Claim7.holds Tryz.pinned (.plain (OpenSpec.ofChange histPackedSpec)) histPackedCard

/-- THE TIED CARD OF 'hyglaw13.HistReads'. -/
def histReadsCard : Claim7 := { stood := { row := histReadsRow, standIns := [], harness := (true, "58e840e573be7bf21686e8a5f3f8f2c94758d053ed742cc742550c5ca26316de"), looks := true }, kinds := [], alts := [], laidByText := true, laidKinds := [.handle], laidTests := true, laidLooks := .later }
def HistReadsCardSaid : Prop := Claim7.holds Tryz.pinned (.plain (OpenSpec.ofChange histReadsSpec)) histReadsCard

/-- THE SECOND FORM's CARD OF 'hyglaw13.HistPacked'. -/
def histPackedUptoCard : Claim7 := { stood := { row := histPackedUptoRow, standIns := [], harness := (true, "58e840e573be7bf21686e8a5f3f8f2c94758d053ed742cc742550c5ca26316de"), looks := true }, kinds := [], alts := [], laidByText := true, laidKinds := [.handle], laidTests := true, laidLooks := .later }
def HistPackedUptoCardSaid : Prop := Claim7.holds Tryz.pinned (.plain (OpenSpec.upto histPackedSpec)) histPackedUptoCard

/-- THE SECOND FORM's CARD OF 'hyglaw13.HistReads'. -/
def histReadsUptoCard : Claim7 := { stood := { row := histReadsUptoRow, standIns := [], harness := (true, "58e840e573be7bf21686e8a5f3f8f2c94758d053ed742cc742550c5ca26316de"), looks := true }, kinds := [], alts := [], laidByText := true, laidKinds := [.handle], laidTests := true, laidLooks := .later }
def HistReadsUptoCardSaid : Prop := Claim7.holds Tryz.pinned (.plain (OpenSpec.upto histReadsSpec)) histReadsUptoCard
end Rows
end Go.Proofs.YtpioginipokfiaaGreatDoor
