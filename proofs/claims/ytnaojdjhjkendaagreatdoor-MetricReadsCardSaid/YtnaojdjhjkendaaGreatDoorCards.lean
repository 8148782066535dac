/-
  DERIVED. GIVEN WITH THE SEED: THE CARDS: each row of YtnaojdjhjkendaaGreatDoorRows.lean that lists a variable, with what it lists TIED to the program's text (the seventh form; the later family's looks); each row that meets fmt, with fmt's text TOLD by the authors' own Lean function (tested against real Go, not proved from fmt's source: count such statements apart). THE CARD IS WHAT COUNTS. Prove the row's statement (the work); the ties are given (YtnaojdjhjkendaaGreatDoorTie.lean); close each card by the builder's one call (the guide's Derived/Test/ToyasCard.lean, 'card_holds'). Laid BY PROGRAM, IN A SANDBOX (cutbox-door.mjs). By AI agents, Wed Nov 11 2026. No macro, syntax, notation, axiom, sorry.
-/
import Derived.Test.YtnaojdjhjkendaaGreatDoorRows
import GoSem.ClaimSeven
namespace Go.Proofs.YtnaojdjhjkendaaGreatDoor
namespace Rows

/-- THE TIED CARD OF 'hyglaw16.MetricReads'. -/
def metricReadsCard : Claim7 := { stood := { row := metricReadsRow, standIns := [], harness := (true, "5dbbfb889e48e19eef359568373258f96f00e06cfb5c47c661d71ef76a96011b"), looks := true }, kinds := [], alts := [], laidByText := true, laidKinds := [.handle], laidTests := true, laidLooks := .later }
def MetricReadsCardSaid : Prop := Claim7.holds Tryz.pinned (.plain (OpenSpec.ofChange metricReadsSpec)) metricReadsCard

/-- THE TIED CARD OF 'hyglaw16.MetricWrites'. -/
def metricWritesCard : Claim7 := { stood := { row := metricWritesRow, standIns := [], harness := (true, "5dbbfb889e48e19eef359568373258f96f00e06cfb5c47c661d71ef76a96011b"), looks := true }, kinds := [], alts := [], laidByText := true, laidKinds := [.handle], laidTests := true, laidLooks := .later }
def MetricWritesCardSaid : Prop := Claim7.holds Tryz.pinned (.plain (OpenSpec.ofChange metricWritesSpec)) metricWritesCard

/-- THE SECOND FORM's CARD OF 'hyglaw16.MetricReads'. -/
def metricReadsUptoCard : Claim7 := { stood := { row := metricReadsUptoRow, standIns := [], harness := (true, "5dbbfb889e48e19eef359568373258f96f00e06cfb5c47c661d71ef76a96011b"), looks := true }, kinds := [], alts := [], laidByText := true, laidKinds := [.handle], laidTests := true, laidLooks := .later }
def MetricReadsUptoCardSaid : Prop := Claim7.holds Tryz.pinned (.plain (OpenSpec.upto metricReadsSpec)) metricReadsUptoCard

/-- THE SECOND FORM's CARD OF 'hyglaw16.MetricWrites'. -/
def metricWritesUptoCard : Claim7 := { stood := { row := metricWritesUptoRow, standIns := [], harness := (true, "5dbbfb889e48e19eef359568373258f96f00e06cfb5c47c661d71ef76a96011b"), looks := true }, kinds := [], alts := [], laidByText := true, laidKinds := [.handle], laidTests := true, laidLooks := .later }
def MetricWritesUptoCardSaid : Prop := Claim7.holds Tryz.pinned (.plain (OpenSpec.upto metricWritesSpec)) metricWritesUptoCard
end Rows
end Go.Proofs.YtnaojdjhjkendaaGreatDoor
