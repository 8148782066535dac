/-
  DERIVED. GIVEN WITH THE SEED: THE CARDS: each row of YtcfkbpddmdfbaaaGreatDoorRows.lean that lists a variable, with what it lists TIED to the program's text (the seventh form; the later family's looks); each row that meets fmt, with fmt's text TOLD by the authors' own Lean function (tested against real Go, not proved from fmt's source: count such statements apart). THE CARD IS WHAT COUNTS. Prove the row's statement (the work); the ties are given (YtcfkbpddmdfbaaaGreatDoorTie.lean); close each card by the builder's one call (the guide's Derived/Test/ToyasCard.lean, 'card_holds'). Laid BY PROGRAM, IN A SANDBOX (cutbox-door.mjs). By AI agents, Wed Nov 11 2026. No macro, syntax, notation, axiom, sorry.
-/
import Derived.Test.YtcfkbpddmdfbaaaGreatDoorRows
import GoSem.ClaimSeven
namespace Go.Proofs.YtcfkbpddmdfbaaaGreatDoor
namespace Rows

/-- THE TIED CARD OF 'hyglaw17.BatchWrites'. -/
def batchWritesCard : Claim7 := { stood := { row := batchWritesRow, standIns := [], harness := (true, "90e024dd0ce1e4bb4555e53593b93d3f3c229847f2570a539dc6eb6132e52844"), looks := true }, kinds := [], alts := [], laidByText := true, laidKinds := [.handle], laidTests := true, laidLooks := .later }
def BatchWritesCardSaid : Prop := Claim7.holds Tryz.pinned (.plain (OpenSpec.ofChange batchWritesSpec)) batchWritesCard

/-- THE TIED CARD OF 'hyglaw17.BatchReads'. -/
def batchReadsCard : Claim7 := { stood := { row := batchReadsRow, standIns := [], harness := (true, "90e024dd0ce1e4bb4555e53593b93d3f3c229847f2570a539dc6eb6132e52844"), looks := true }, kinds := [], alts := [], laidByText := true, laidKinds := [.handle], laidTests := true, laidLooks := .later }
def BatchReadsCardSaid : Prop := Claim7.holds Tryz.pinned (.plain (OpenSpec.ofChange batchReadsSpec)) batchReadsCard

/-- THE TIED CARD OF 'hyglaw17.BatchSame'. -/
def batchSameCard : Claim7 := { stood := { row := batchSameRow, standIns := [], harness := (true, "90e024dd0ce1e4bb4555e53593b93d3f3c229847f2570a539dc6eb6132e52844"), looks := true }, kinds := [], alts := [], laidByText := true, laidKinds := [.handle], laidTests := true, laidLooks := .later }
def BatchSameCardSaid : Prop := Claim7.holds Tryz.pinned (.plain (OpenSpec.ofChange batchSameSpec)) batchSameCard

/-- THE TIED CARD OF 'hyglaw17.BatchLarge'. -/
def batchLargeCard : Claim7 := { stood := { row := batchLargeRow, standIns := [], harness := (true, "90e024dd0ce1e4bb4555e53593b93d3f3c229847f2570a539dc6eb6132e52844"), looks := true }, kinds := [], alts := [], laidByText := true, laidKinds := [.handle], laidTests := true, laidLooks := .later }
def BatchLargeCardSaid : Prop := Claim7.holds Tryz.pinned (.plain (OpenSpec.ofChange batchLargeSpec)) batchLargeCard

/-- THE TIED CARD OF 'hyglaw17.BatchJoins'. -/
def batchJoinsCard : Claim7 := { stood := { row := batchJoinsRow, standIns := [], harness := (true, "90e024dd0ce1e4bb4555e53593b93d3f3c229847f2570a539dc6eb6132e52844"), looks := true }, kinds := [], alts := [], laidByText := true, laidKinds := [.handle], laidTests := true, laidLooks := .later }
def BatchJoinsCardSaid : Prop := Claim7.holds Tryz.pinned (.plain (OpenSpec.ofChange batchJoinsSpec)) batchJoinsCard

/-- THE SECOND FORM's CARD OF 'hyglaw17.BatchWrites'. -/
def batchWritesUptoCard : Claim7 := { stood := { row := batchWritesUptoRow, standIns := [], harness := (true, "90e024dd0ce1e4bb4555e53593b93d3f3c229847f2570a539dc6eb6132e52844"), looks := true }, kinds := [], alts := [], laidByText := true, laidKinds := [.handle], laidTests := true, laidLooks := .later }
def BatchWritesUptoCardSaid : Prop := Claim7.holds Tryz.pinned (.plain (OpenSpec.upto batchWritesSpec)) batchWritesUptoCard

/-- THE SECOND FORM's CARD OF 'hyglaw17.BatchReads'. -/
def batchReadsUptoCard : Claim7 := { stood := { row := batchReadsUptoRow, standIns := [], harness := (true, "90e024dd0ce1e4bb4555e53593b93d3f3c229847f2570a539dc6eb6132e52844"), looks := true }, kinds := [], alts := [], laidByText := true, laidKinds := [.handle], laidTests := true, laidLooks := .later }
def BatchReadsUptoCardSaid : Prop := Claim7.holds Tryz.pinned (.plain (OpenSpec.upto batchReadsSpec)) batchReadsUptoCard

/-- THE SECOND FORM's CARD OF 'hyglaw17.BatchSame'. -/
def batchSameUptoCard : Claim7 := { stood := { row := batchSameUptoRow, standIns := [], harness := (true, "90e024dd0ce1e4bb4555e53593b93d3f3c229847f2570a539dc6eb6132e52844"), looks := true }, kinds := [], alts := [], laidByText := true, laidKinds := [.handle], laidTests := true, laidLooks := .later }
def BatchSameUptoCardSaid : Prop := Claim7.holds Tryz.pinned (.plain (OpenSpec.upto batchSameSpec)) batchSameUptoCard

/-- THE SECOND FORM's CARD OF 'hyglaw17.BatchLarge'. -/
def batchLargeUptoCard : Claim7 := { stood := { row := batchLargeUptoRow, standIns := [], harness := (true, "90e024dd0ce1e4bb4555e53593b93d3f3c229847f2570a539dc6eb6132e52844"), looks := true }, kinds := [], alts := [], laidByText := true, laidKinds := [.handle], laidTests := true, laidLooks := .later }
def BatchLargeUptoCardSaid : Prop := Claim7.holds Tryz.pinned (.plain (OpenSpec.upto batchLargeSpec)) batchLargeUptoCard

/-- THE SECOND FORM's CARD OF 'hyglaw17.BatchJoins'. -/
def batchJoinsUptoCard : Claim7 := { stood := { row := batchJoinsUptoRow, standIns := [], harness := (true, "90e024dd0ce1e4bb4555e53593b93d3f3c229847f2570a539dc6eb6132e52844"), looks := true }, kinds := [], alts := [], laidByText := true, laidKinds := [.handle], laidTests := true, laidLooks := .later }
def BatchJoinsUptoCardSaid : Prop := Claim7.holds Tryz.pinned (.plain (OpenSpec.upto batchJoinsSpec)) batchJoinsUptoCard
end Rows
end Go.Proofs.YtcfkbpddmdfbaaaGreatDoor
