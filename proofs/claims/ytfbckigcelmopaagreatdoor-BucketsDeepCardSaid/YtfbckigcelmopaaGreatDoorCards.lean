/-
  DERIVED. GIVEN WITH THE SEED: THE CARDS: each row of YtfbckigcelmopaaGreatDoorRows.lean that lists a variable, with what it lists TIED to the program's text (the seventh form; the later family's looks); each row that meets fmt, with fmt's text TOLD by the authors' own Lean function (tested against real Go, not proved from fmt's source: count such statements apart). THE CARD IS WHAT COUNTS. Prove the row's statement (the work); the ties are given (YtfbckigcelmopaaGreatDoorTie.lean); close each card by the builder's one call (the guide's Derived/Test/ToyasCard.lean, 'card_holds'). Laid BY PROGRAM, IN A SANDBOX (cutbox-door.mjs). By AI agents, Wed Nov 11 2026. No macro, syntax, notation, axiom, sorry.
-/
import Derived.Test.YtfbckigcelmopaaGreatDoorRows
import GoSem.ClaimSeven
namespace Go.Proofs.YtfbckigcelmopaaGreatDoor
namespace Rows

/-- THE TIED CARD OF 'hyglaw14.BucketsJoins'. -/
def bucketsJoinsCard : Claim7 := { stood := { row := bucketsJoinsRow, standIns := [], harness := (true, "e851de737815bea61933c8e1cf8459faeff708ea24ce650a4c14a502aab80496"), looks := true }, kinds := [], alts := [], laidByText := true, laidKinds := [.handle], laidTests := true, laidLooks := .later }
def BucketsJoinsCardSaid : Prop := Claim7.holds Tryz.pinned (.plain (OpenSpec.ofChange bucketsJoinsSpec)) bucketsJoinsCard

/-- THE TIED CARD OF 'hyglaw14.BucketsReads'. -/
def bucketsReadsCard : Claim7 := { stood := { row := bucketsReadsRow, standIns := [], harness := (true, "e851de737815bea61933c8e1cf8459faeff708ea24ce650a4c14a502aab80496"), looks := true }, kinds := [], alts := [], laidByText := true, laidKinds := [.handle], laidTests := true, laidLooks := .later }
def BucketsReadsCardSaid : Prop := Claim7.holds Tryz.pinned (.plain (OpenSpec.ofChange bucketsReadsSpec)) bucketsReadsCard

/-- THE TIED CARD OF 'hyglaw14.BucketsDeep'. -/
def bucketsDeepCard : Claim7 := { stood := { row := bucketsDeepRow, standIns := [], harness := (true, "e851de737815bea61933c8e1cf8459faeff708ea24ce650a4c14a502aab80496"), looks := true }, kinds := [], alts := [], laidByText := true, laidKinds := [.handle], laidTests := true, laidLooks := .later }
def BucketsDeepCardSaid : Prop := Claim7.holds Tryz.pinned (.plain (OpenSpec.ofChange bucketsDeepSpec)) bucketsDeepCard

/-- THE TIED CARD OF 'hyglaw14.BucketsWrites'. -/
def bucketsWritesCard : Claim7 := { stood := { row := bucketsWritesRow, standIns := [], harness := (true, "e851de737815bea61933c8e1cf8459faeff708ea24ce650a4c14a502aab80496"), looks := true }, kinds := [], alts := [], laidByText := true, laidKinds := [.handle], laidTests := true, laidLooks := .later }
def BucketsWritesCardSaid : Prop := Claim7.holds Tryz.pinned (.plain (OpenSpec.ofChange bucketsWritesSpec)) bucketsWritesCard

/-- THE TIED CARD OF 'hyglaw14.BucketsSame'. -/
def bucketsSameCard : Claim7 := { stood := { row := bucketsSameRow, standIns := [], harness := (true, "e851de737815bea61933c8e1cf8459faeff708ea24ce650a4c14a502aab80496"), looks := true }, kinds := [], alts := [], laidByText := true, laidKinds := [.handle], laidTests := true, laidLooks := .later }
def BucketsSameCardSaid : Prop := Claim7.holds Tryz.pinned (.plain (OpenSpec.ofChange bucketsSameSpec)) bucketsSameCard

/-- THE TIED CARD OF 'hyglaw14.BucketsBack'. -/
def bucketsBackCard : Claim7 := { stood := { row := bucketsBackRow, standIns := [], harness := (true, "e851de737815bea61933c8e1cf8459faeff708ea24ce650a4c14a502aab80496"), looks := true }, kinds := [], alts := [], laidByText := true, laidKinds := [.handle], laidTests := true, laidLooks := .later }
def BucketsBackCardSaid : Prop := Claim7.holds Tryz.pinned (.plain (OpenSpec.ofChange bucketsBackSpec)) bucketsBackCard

/-- THE TIED CARD OF 'hyglaw14.BucketsTwice'. -/
def bucketsTwiceCard : Claim7 := { stood := { row := bucketsTwiceRow, standIns := [], harness := (true, "e851de737815bea61933c8e1cf8459faeff708ea24ce650a4c14a502aab80496"), looks := true }, kinds := [], alts := [], laidByText := true, laidKinds := [.handle], laidTests := true, laidLooks := .later }
def BucketsTwiceCardSaid : Prop := Claim7.holds Tryz.pinned (.plain (OpenSpec.ofChange bucketsTwiceSpec)) bucketsTwiceCard

/-- THE TIED CARD OF 'hyglaw14.BucketsOthers'. -/
def bucketsOthersCard : Claim7 := { stood := { row := bucketsOthersRow, standIns := [], harness := (true, "e851de737815bea61933c8e1cf8459faeff708ea24ce650a4c14a502aab80496"), looks := true }, kinds := [], alts := [], laidByText := true, laidKinds := [.handle], laidTests := true, laidLooks := .later }
def BucketsOthersCardSaid : Prop := Claim7.holds Tryz.pinned (.plain (OpenSpec.ofChange bucketsOthersSpec)) bucketsOthersCard

/-- THE SECOND FORM's CARD OF 'hyglaw14.BucketsJoins'. -/
def bucketsJoinsUptoCard : Claim7 := { stood := { row := bucketsJoinsUptoRow, standIns := [], harness := (true, "e851de737815bea61933c8e1cf8459faeff708ea24ce650a4c14a502aab80496"), looks := true }, kinds := [], alts := [], laidByText := true, laidKinds := [.handle], laidTests := true, laidLooks := .later }
def BucketsJoinsUptoCardSaid : Prop := Claim7.holds Tryz.pinned (.plain (OpenSpec.upto bucketsJoinsSpec)) bucketsJoinsUptoCard

/-- THE SECOND FORM's CARD OF 'hyglaw14.BucketsReads'. -/
def bucketsReadsUptoCard : Claim7 := { stood := { row := bucketsReadsUptoRow, standIns := [], harness := (true, "e851de737815bea61933c8e1cf8459faeff708ea24ce650a4c14a502aab80496"), looks := true }, kinds := [], alts := [], laidByText := true, laidKinds := [.handle], laidTests := true, laidLooks := .later }
def BucketsReadsUptoCardSaid : Prop := Claim7.holds Tryz.pinned (.plain (OpenSpec.upto bucketsReadsSpec)) bucketsReadsUptoCard

/-- THE SECOND FORM's CARD OF 'hyglaw14.BucketsDeep'. -/
def bucketsDeepUptoCard : Claim7 := { stood := { row := bucketsDeepUptoRow, standIns := [], harness := (true, "e851de737815bea61933c8e1cf8459faeff708ea24ce650a4c14a502aab80496"), looks := true }, kinds := [], alts := [], laidByText := true, laidKinds := [.handle], laidTests := true, laidLooks := .later }
def BucketsDeepUptoCardSaid : Prop := Claim7.holds Tryz.pinned (.plain (OpenSpec.upto bucketsDeepSpec)) bucketsDeepUptoCard

/-- THE SECOND FORM's CARD OF 'hyglaw14.BucketsWrites'. -/
def bucketsWritesUptoCard : Claim7 := { stood := { row := bucketsWritesUptoRow, standIns := [], harness := (true, "e851de737815bea61933c8e1cf8459faeff708ea24ce650a4c14a502aab80496"), looks := true }, kinds := [], alts := [], laidByText := true, laidKinds := [.handle], laidTests := true, laidLooks := .later }
def BucketsWritesUptoCardSaid : Prop := Claim7.holds Tryz.pinned (.plain (OpenSpec.upto bucketsWritesSpec)) bucketsWritesUptoCard

/-- THE SECOND FORM's CARD OF 'hyglaw14.BucketsSame'. -/
def bucketsSameUptoCard : Claim7 := { stood := { row := bucketsSameUptoRow, standIns := [], harness := (true, "e851de737815bea61933c8e1cf8459faeff708ea24ce650a4c14a502aab80496"), looks := true }, kinds := [], alts := [], laidByText := true, laidKinds := [.handle], laidTests := true, laidLooks := .later }
def BucketsSameUptoCardSaid : Prop := Claim7.holds Tryz.pinned (.plain (OpenSpec.upto bucketsSameSpec)) bucketsSameUptoCard

/-- THE SECOND FORM's CARD OF 'hyglaw14.BucketsBack'. -/
def bucketsBackUptoCard : Claim7 := { stood := { row := bucketsBackUptoRow, standIns := [], harness := (true, "e851de737815bea61933c8e1cf8459faeff708ea24ce650a4c14a502aab80496"), looks := true }, kinds := [], alts := [], laidByText := true, laidKinds := [.handle], laidTests := true, laidLooks := .later }
def BucketsBackUptoCardSaid : Prop := Claim7.holds Tryz.pinned (.plain (OpenSpec.upto bucketsBackSpec)) bucketsBackUptoCard

/-- THE SECOND FORM's CARD OF 'hyglaw14.BucketsTwice'. -/
def bucketsTwiceUptoCard : Claim7 := { stood := { row := bucketsTwiceUptoRow, standIns := [], harness := (true, "e851de737815bea61933c8e1cf8459faeff708ea24ce650a4c14a502aab80496"), looks := true }, kinds := [], alts := [], laidByText := true, laidKinds := [.handle], laidTests := true, laidLooks := .later }
def BucketsTwiceUptoCardSaid : Prop := Claim7.holds Tryz.pinned (.plain (OpenSpec.upto bucketsTwiceSpec)) bucketsTwiceUptoCard

/-- THE SECOND FORM's CARD OF 'hyglaw14.BucketsOthers'. -/
def bucketsOthersUptoCard : Claim7 := { stood := { row := bucketsOthersUptoRow, standIns := [], harness := (true, "e851de737815bea61933c8e1cf8459faeff708ea24ce650a4c14a502aab80496"), looks := true }, kinds := [], alts := [], laidByText := true, laidKinds := [.handle], laidTests := true, laidLooks := .later }
def BucketsOthersUptoCardSaid : Prop := Claim7.holds Tryz.pinned (.plain (OpenSpec.upto bucketsOthersSpec)) bucketsOthersUptoCard
end Rows
end Go.Proofs.YtfbckigcelmopaaGreatDoor
