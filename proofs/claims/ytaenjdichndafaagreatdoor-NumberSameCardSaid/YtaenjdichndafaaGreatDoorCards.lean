/-
  DERIVED. GIVEN WITH THE SEED: THE CARDS: each row of YtaenjdichndafaaGreatDoorRows.lean that lists a variable, with what it lists TIED to the program's text (the seventh form; the later family's looks); each row that meets fmt, with fmt's text TOLD by the authors' own Lean function (tested against real Go, not proved from fmt's source: count such statements apart). THE CARD IS WHAT COUNTS. Prove the row's statement (the work); the ties are given (YtaenjdichndafaaGreatDoorTie.lean); close each card by the builder's one call (the guide's Derived/Test/ToyasCard.lean, 'card_holds'). Laid BY PROGRAM, IN A SANDBOX (cutbox-door.mjs). By AI agents, Wed Nov 11 2026. No macro, syntax, notation, axiom, sorry.
-/
import Derived.Test.YtaenjdichndafaaGreatDoorRows
import GoSem.ClaimSeven
namespace Go.Proofs.YtaenjdichndafaaGreatDoor
namespace Rows

/-- THE TIED CARD OF 'hyglaw11.ExemReads'. -/
def exemReadsCard : Claim7 := { stood := { row := exemReadsRow, standIns := [], harness := (true, "b72198557f18340fe811edf7ecc1fe86052c544de377768ea4654bdf40f56f58"), looks := true }, kinds := [], alts := [], laidByText := true, laidKinds := [.handle], laidTests := true, laidLooks := .later }
def ExemReadsCardSaid : Prop := Claim7.holds Tryz.pinned (.plain (OpenSpec.ofChange exemReadsSpec)) exemReadsCard

/-- THE TIED CARD OF 'hyglaw11.ExemJoins'. -/
def exemJoinsCard : Claim7 := { stood := { row := exemJoinsRow, standIns := [], harness := (true, "b72198557f18340fe811edf7ecc1fe86052c544de377768ea4654bdf40f56f58"), looks := true }, kinds := [], alts := [], laidByText := true, laidKinds := [.handle], laidTests := true, laidLooks := .later }
def ExemJoinsCardSaid : Prop := Claim7.holds Tryz.pinned (.plain (OpenSpec.ofChange exemJoinsSpec)) exemJoinsCard

/-- THE TIED CARD OF 'hyglaw11.ExemDeep'. -/
def exemDeepCard : Claim7 := { stood := { row := exemDeepRow, standIns := [], harness := (true, "b72198557f18340fe811edf7ecc1fe86052c544de377768ea4654bdf40f56f58"), looks := true }, kinds := [], alts := [], laidByText := true, laidKinds := [.handle], laidTests := true, laidLooks := .later }
def ExemDeepCardSaid : Prop := Claim7.holds Tryz.pinned (.plain (OpenSpec.ofChange exemDeepSpec)) exemDeepCard

/-- THE TIED CARD OF 'hyglaw11.ExemBack'. -/
def exemBackCard : Claim7 := { stood := { row := exemBackRow, standIns := [], harness := (true, "b72198557f18340fe811edf7ecc1fe86052c544de377768ea4654bdf40f56f58"), looks := true }, kinds := [], alts := [], laidByText := true, laidKinds := [.handle], laidTests := true, laidLooks := .later }
def ExemBackCardSaid : Prop := Claim7.holds Tryz.pinned (.plain (OpenSpec.ofChange exemBackSpec)) exemBackCard

/-- THE TIED CARD OF 'hyglaw11.ExemTwice'. -/
def exemTwiceCard : Claim7 := { stood := { row := exemTwiceRow, standIns := [], harness := (true, "b72198557f18340fe811edf7ecc1fe86052c544de377768ea4654bdf40f56f58"), looks := true }, kinds := [], alts := [], laidByText := true, laidKinds := [.handle], laidTests := true, laidLooks := .later }
def ExemTwiceCardSaid : Prop := Claim7.holds Tryz.pinned (.plain (OpenSpec.ofChange exemTwiceSpec)) exemTwiceCard

/-- THE TIED CARD OF 'hyglaw11.ExemOthers'. -/
def exemOthersCard : Claim7 := { stood := { row := exemOthersRow, standIns := [], harness := (true, "b72198557f18340fe811edf7ecc1fe86052c544de377768ea4654bdf40f56f58"), looks := true }, kinds := [], alts := [], laidByText := true, laidKinds := [.handle], laidTests := true, laidLooks := .later }
def ExemOthersCardSaid : Prop := Claim7.holds Tryz.pinned (.plain (OpenSpec.ofChange exemOthersSpec)) exemOthersCard

/-- THE TIED CARD OF 'hyglaw12.NumberJoins'. -/
def numberJoinsCard : Claim7 := { stood := { row := numberJoinsRow, standIns := [], harness := (true, "b72198557f18340fe811edf7ecc1fe86052c544de377768ea4654bdf40f56f58"), looks := true }, kinds := [], alts := [], laidByText := true, laidKinds := [.handle], laidTests := true, laidLooks := .later }
def NumberJoinsCardSaid : Prop := Claim7.holds Tryz.pinned (.plain (OpenSpec.ofChange numberJoinsSpec)) numberJoinsCard

/-- THE TIED CARD OF 'hyglaw12.NumberSame'. -/
def numberSameCard : Claim7 := { stood := { row := numberSameRow, standIns := [], harness := (true, "b72198557f18340fe811edf7ecc1fe86052c544de377768ea4654bdf40f56f58"), looks := true }, kinds := [], alts := [], laidByText := true, laidKinds := [.handle], laidTests := true, laidLooks := .later }
def NumberSameCardSaid : Prop := Claim7.holds Tryz.pinned (.plain (OpenSpec.ofChange numberSameSpec)) numberSameCard

/-- THE TIED CARD OF 'hyglaw12.NumberBack'. -/
def numberBackCard : Claim7 := { stood := { row := numberBackRow, standIns := [], harness := (true, "b72198557f18340fe811edf7ecc1fe86052c544de377768ea4654bdf40f56f58"), looks := true }, kinds := [], alts := [], laidByText := true, laidKinds := [.handle], laidTests := true, laidLooks := .later }
def NumberBackCardSaid : Prop := Claim7.holds Tryz.pinned (.plain (OpenSpec.ofChange numberBackSpec)) numberBackCard

/-- THE TIED CARD OF 'hyglaw12.NumberTwice'. -/
def numberTwiceCard : Claim7 := { stood := { row := numberTwiceRow, standIns := [], harness := (true, "b72198557f18340fe811edf7ecc1fe86052c544de377768ea4654bdf40f56f58"), looks := true }, kinds := [], alts := [], laidByText := true, laidKinds := [.handle], laidTests := true, laidLooks := .later }
def NumberTwiceCardSaid : Prop := Claim7.holds Tryz.pinned (.plain (OpenSpec.ofChange numberTwiceSpec)) numberTwiceCard

/-- THE TIED CARD OF 'hyglaw12.NumberOthers'. -/
def numberOthersCard : Claim7 := { stood := { row := numberOthersRow, standIns := [], harness := (true, "b72198557f18340fe811edf7ecc1fe86052c544de377768ea4654bdf40f56f58"), looks := true }, kinds := [], alts := [], laidByText := true, laidKinds := [.handle], laidTests := true, laidLooks := .later }
def NumberOthersCardSaid : Prop := Claim7.holds Tryz.pinned (.plain (OpenSpec.ofChange numberOthersSpec)) numberOthersCard

/-- THE TIED CARD OF 'hyglaw12.NumberReads'. -/
def numberReadsCard : Claim7 := { stood := { row := numberReadsRow, standIns := [], harness := (true, "b72198557f18340fe811edf7ecc1fe86052c544de377768ea4654bdf40f56f58"), looks := true }, kinds := [], alts := [], laidByText := true, laidKinds := [.handle], laidTests := true, laidLooks := .later }
def NumberReadsCardSaid : Prop := Claim7.holds Tryz.pinned (.plain (OpenSpec.ofChange numberReadsSpec)) numberReadsCard

/-- THE SECOND FORM's CARD OF 'hyglaw11.ExemReads'. -/
def exemReadsUptoCard : Claim7 := { stood := { row := exemReadsUptoRow, standIns := [], harness := (true, "b72198557f18340fe811edf7ecc1fe86052c544de377768ea4654bdf40f56f58"), looks := true }, kinds := [], alts := [], laidByText := true, laidKinds := [.handle], laidTests := true, laidLooks := .later }
def ExemReadsUptoCardSaid : Prop := Claim7.holds Tryz.pinned (.plain (OpenSpec.upto exemReadsSpec)) exemReadsUptoCard

/-- THE SECOND FORM's CARD OF 'hyglaw11.ExemJoins'. -/
def exemJoinsUptoCard : Claim7 := { stood := { row := exemJoinsUptoRow, standIns := [], harness := (true, "b72198557f18340fe811edf7ecc1fe86052c544de377768ea4654bdf40f56f58"), looks := true }, kinds := [], alts := [], laidByText := true, laidKinds := [.handle], laidTests := true, laidLooks := .later }
def ExemJoinsUptoCardSaid : Prop := Claim7.holds Tryz.pinned (.plain (OpenSpec.upto exemJoinsSpec)) exemJoinsUptoCard

/-- THE SECOND FORM's CARD OF 'hyglaw11.ExemDeep'. -/
def exemDeepUptoCard : Claim7 := { stood := { row := exemDeepUptoRow, standIns := [], harness := (true, "b72198557f18340fe811edf7ecc1fe86052c544de377768ea4654bdf40f56f58"), looks := true }, kinds := [], alts := [], laidByText := true, laidKinds := [.handle], laidTests := true, laidLooks := .later }
def ExemDeepUptoCardSaid : Prop := Claim7.holds Tryz.pinned (.plain (OpenSpec.upto exemDeepSpec)) exemDeepUptoCard

/-- THE SECOND FORM's CARD OF 'hyglaw11.ExemBack'. -/
def exemBackUptoCard : Claim7 := { stood := { row := exemBackUptoRow, standIns := [], harness := (true, "b72198557f18340fe811edf7ecc1fe86052c544de377768ea4654bdf40f56f58"), looks := true }, kinds := [], alts := [], laidByText := true, laidKinds := [.handle], laidTests := true, laidLooks := .later }
def ExemBackUptoCardSaid : Prop := Claim7.holds Tryz.pinned (.plain (OpenSpec.upto exemBackSpec)) exemBackUptoCard

/-- THE SECOND FORM's CARD OF 'hyglaw11.ExemTwice'. -/
def exemTwiceUptoCard : Claim7 := { stood := { row := exemTwiceUptoRow, standIns := [], harness := (true, "b72198557f18340fe811edf7ecc1fe86052c544de377768ea4654bdf40f56f58"), looks := true }, kinds := [], alts := [], laidByText := true, laidKinds := [.handle], laidTests := true, laidLooks := .later }
def ExemTwiceUptoCardSaid : Prop := Claim7.holds Tryz.pinned (.plain (OpenSpec.upto exemTwiceSpec)) exemTwiceUptoCard

/-- THE SECOND FORM's CARD OF 'hyglaw11.ExemOthers'. -/
def exemOthersUptoCard : Claim7 := { stood := { row := exemOthersUptoRow, standIns := [], harness := (true, "b72198557f18340fe811edf7ecc1fe86052c544de377768ea4654bdf40f56f58"), looks := true }, kinds := [], alts := [], laidByText := true, laidKinds := [.handle], laidTests := true, laidLooks := .later }
def ExemOthersUptoCardSaid : Prop := Claim7.holds Tryz.pinned (.plain (OpenSpec.upto exemOthersSpec)) exemOthersUptoCard

/-- THE SECOND FORM's CARD OF 'hyglaw12.NumberJoins'. -/
def numberJoinsUptoCard : Claim7 := { stood := { row := numberJoinsUptoRow, standIns := [], harness := (true, "b72198557f18340fe811edf7ecc1fe86052c544de377768ea4654bdf40f56f58"), looks := true }, kinds := [], alts := [], laidByText := true, laidKinds := [.handle], laidTests := true, laidLooks := .later }
def NumberJoinsUptoCardSaid : Prop := Claim7.holds Tryz.pinned (.plain (OpenSpec.upto numberJoinsSpec)) numberJoinsUptoCard

/-- THE SECOND FORM's CARD OF 'hyglaw12.NumberSame'. -/
def numberSameUptoCard : Claim7 := { stood := { row := numberSameUptoRow, standIns := [], harness := (true, "b72198557f18340fe811edf7ecc1fe86052c544de377768ea4654bdf40f56f58"), looks := true }, kinds := [], alts := [], laidByText := true, laidKinds := [.handle], laidTests := true, laidLooks := .later }
def NumberSameUptoCardSaid : Prop := Claim7.holds Tryz.pinned (.plain (OpenSpec.upto numberSameSpec)) numberSameUptoCard

/-- THE SECOND FORM's CARD OF 'hyglaw12.NumberBack'. -/
def numberBackUptoCard : Claim7 := { stood := { row := numberBackUptoRow, standIns := [], harness := (true, "b72198557f18340fe811edf7ecc1fe86052c544de377768ea4654bdf40f56f58"), looks := true }, kinds := [], alts := [], laidByText := true, laidKinds := [.handle], laidTests := true, laidLooks := .later }
def NumberBackUptoCardSaid : Prop := Claim7.holds Tryz.pinned (.plain (OpenSpec.upto numberBackSpec)) numberBackUptoCard

/-- THE SECOND FORM's CARD OF 'hyglaw12.NumberTwice'. -/
def numberTwiceUptoCard : Claim7 := { stood := { row := numberTwiceUptoRow, standIns := [], harness := (true, "b72198557f18340fe811edf7ecc1fe86052c544de377768ea4654bdf40f56f58"), looks := true }, kinds := [], alts := [], laidByText := true, laidKinds := [.handle], laidTests := true, laidLooks := .later }
def NumberTwiceUptoCardSaid : Prop := Claim7.holds Tryz.pinned (.plain (OpenSpec.upto numberTwiceSpec)) numberTwiceUptoCard

/-- THE SECOND FORM's CARD OF 'hyglaw12.NumberOthers'. -/
def numberOthersUptoCard : Claim7 := { stood := { row := numberOthersUptoRow, standIns := [], harness := (true, "b72198557f18340fe811edf7ecc1fe86052c544de377768ea4654bdf40f56f58"), looks := true }, kinds := [], alts := [], laidByText := true, laidKinds := [.handle], laidTests := true, laidLooks := .later }
def NumberOthersUptoCardSaid : Prop := Claim7.holds Tryz.pinned (.plain (OpenSpec.upto numberOthersSpec)) numberOthersUptoCard

/-- THE SECOND FORM's CARD OF 'hyglaw12.NumberReads'. -/
def numberReadsUptoCard : Claim7 := { stood := { row := numberReadsUptoRow, standIns := [], harness := (true, "b72198557f18340fe811edf7ecc1fe86052c544de377768ea4654bdf40f56f58"), looks := true }, kinds := [], alts := [], laidByText := true, laidKinds := [.handle], laidTests := true, laidLooks := .later }
def NumberReadsUptoCardSaid : Prop := Claim7.holds Tryz.pinned (.plain (OpenSpec.upto numberReadsSpec)) numberReadsUptoCard
end Rows
end Go.Proofs.YtaenjdichndafaaGreatDoor
