/-
  DERIVED. GIVEN WITH THE SEED: THE CARDS: each row of YtcinfkbdmjnjlaaGreatDoorRows.lean that lists a variable, with what it lists TIED to the program's text (the seventh form; the later family's looks); each row that meets fmt, with fmt's text TOLD by the authors' own Lean function (tested against real Go, not proved from fmt's source: count such statements apart). THE CARD IS WHAT COUNTS. Prove the row's statement (the work); the ties are given (YtcinfkbdmjnjlaaGreatDoorTie.lean); close each card by the builder's one call (the guide's Derived/Test/ToyasCard.lean, 'card_holds'). Laid BY PROGRAM, IN A SANDBOX (cutbox-door.mjs). By AI agents, Wed Nov 11 2026. No macro, syntax, notation, axiom, sorry.
-/
import Derived.Test.YtcinfkbdmjnjlaaGreatDoorRows
import GoSem.ClaimSeven
namespace Go.Proofs.YtcinfkbdmjnjlaaGreatDoor
namespace Rows

/-- THE TIED CARD OF 'hyglaw14.ExphJoins'. -/
def exphJoinsCard : Claim7 := { stood := { row := exphJoinsRow, standIns := [], harness := (true, "efcf4db41e8af101797ff341e54a8d498af21a98060e6468f131ebcc2515c533"), looks := true }, kinds := [], alts := [], laidByText := true, laidKinds := [.handle], laidTests := true, laidLooks := .later }
def ExphJoinsCardSaid : Prop := Claim7.holds Tryz.pinned (.plain (OpenSpec.ofChange exphJoinsSpec)) exphJoinsCard

/-- THE TIED CARD OF 'hyglaw14.ExphReads'. -/
def exphReadsCard : Claim7 := { stood := { row := exphReadsRow, standIns := [], harness := (true, "efcf4db41e8af101797ff341e54a8d498af21a98060e6468f131ebcc2515c533"), looks := true }, kinds := [], alts := [], laidByText := true, laidKinds := [.handle], laidTests := true, laidLooks := .later }
def ExphReadsCardSaid : Prop := Claim7.holds Tryz.pinned (.plain (OpenSpec.ofChange exphReadsSpec)) exphReadsCard

/-- THE TIED CARD OF 'hyglaw14.ExphDeep'. -/
def exphDeepCard : Claim7 := { stood := { row := exphDeepRow, standIns := [], harness := (true, "efcf4db41e8af101797ff341e54a8d498af21a98060e6468f131ebcc2515c533"), looks := true }, kinds := [], alts := [], laidByText := true, laidKinds := [.handle], laidTests := true, laidLooks := .later }
def ExphDeepCardSaid : Prop := Claim7.holds Tryz.pinned (.plain (OpenSpec.ofChange exphDeepSpec)) exphDeepCard

/-- THE TIED CARD OF 'hyglaw14.ExphSame'. -/
def exphSameCard : Claim7 := { stood := { row := exphSameRow, standIns := [], harness := (true, "efcf4db41e8af101797ff341e54a8d498af21a98060e6468f131ebcc2515c533"), looks := true }, kinds := [], alts := [], laidByText := true, laidKinds := [.handle], laidTests := true, laidLooks := .later }
def ExphSameCardSaid : Prop := Claim7.holds Tryz.pinned (.plain (OpenSpec.ofChange exphSameSpec)) exphSameCard

/-- THE TIED CARD OF 'hyglaw14.ExphOthers'. -/
def exphOthersCard : Claim7 := { stood := { row := exphOthersRow, standIns := [], harness := (true, "efcf4db41e8af101797ff341e54a8d498af21a98060e6468f131ebcc2515c533"), looks := true }, kinds := [], alts := [], laidByText := true, laidKinds := [.handle], laidTests := true, laidLooks := .later }
def ExphOthersCardSaid : Prop := Claim7.holds Tryz.pinned (.plain (OpenSpec.ofChange exphOthersSpec)) exphOthersCard

/-- THE TIED CARD OF 'hyglaw14.ExphBack'. -/
def exphBackCard : Claim7 := { stood := { row := exphBackRow, standIns := [], harness := (true, "efcf4db41e8af101797ff341e54a8d498af21a98060e6468f131ebcc2515c533"), looks := true }, kinds := [], alts := [], laidByText := true, laidKinds := [.handle], laidTests := true, laidLooks := .later }
def ExphBackCardSaid : Prop := Claim7.holds Tryz.pinned (.plain (OpenSpec.ofChange exphBackSpec)) exphBackCard

/-- THE TIED CARD OF 'hyglaw14.ExphTwice'. -/
def exphTwiceCard : Claim7 := { stood := { row := exphTwiceRow, standIns := [], harness := (true, "efcf4db41e8af101797ff341e54a8d498af21a98060e6468f131ebcc2515c533"), looks := true }, kinds := [], alts := [], laidByText := true, laidKinds := [.handle], laidTests := true, laidLooks := .later }
def ExphTwiceCardSaid : Prop := Claim7.holds Tryz.pinned (.plain (OpenSpec.ofChange exphTwiceSpec)) exphTwiceCard

/-- THE TIED CARD OF 'hyglaw14.ExphWrites'. -/
def exphWritesCard : Claim7 := { stood := { row := exphWritesRow, standIns := [], harness := (true, "efcf4db41e8af101797ff341e54a8d498af21a98060e6468f131ebcc2515c533"), looks := true }, kinds := [], alts := [], laidByText := true, laidKinds := [.handle], laidTests := true, laidLooks := .later }
def ExphWritesCardSaid : Prop := Claim7.holds Tryz.pinned (.plain (OpenSpec.ofChange exphWritesSpec)) exphWritesCard

/-- THE SECOND FORM's CARD OF 'hyglaw14.ExphJoins'. -/
def exphJoinsUptoCard : Claim7 := { stood := { row := exphJoinsUptoRow, standIns := [], harness := (true, "efcf4db41e8af101797ff341e54a8d498af21a98060e6468f131ebcc2515c533"), looks := true }, kinds := [], alts := [], laidByText := true, laidKinds := [.handle], laidTests := true, laidLooks := .later }
def ExphJoinsUptoCardSaid : Prop := Claim7.holds Tryz.pinned (.plain (OpenSpec.upto exphJoinsSpec)) exphJoinsUptoCard

/-- THE SECOND FORM's CARD OF 'hyglaw14.ExphReads'. -/
def exphReadsUptoCard : Claim7 := { stood := { row := exphReadsUptoRow, standIns := [], harness := (true, "efcf4db41e8af101797ff341e54a8d498af21a98060e6468f131ebcc2515c533"), looks := true }, kinds := [], alts := [], laidByText := true, laidKinds := [.handle], laidTests := true, laidLooks := .later }
def ExphReadsUptoCardSaid : Prop := Claim7.holds Tryz.pinned (.plain (OpenSpec.upto exphReadsSpec)) exphReadsUptoCard

/-- THE SECOND FORM's CARD OF 'hyglaw14.ExphDeep'. -/
def exphDeepUptoCard : Claim7 := { stood := { row := exphDeepUptoRow, standIns := [], harness := (true, "efcf4db41e8af101797ff341e54a8d498af21a98060e6468f131ebcc2515c533"), looks := true }, kinds := [], alts := [], laidByText := true, laidKinds := [.handle], laidTests := true, laidLooks := .later }
def ExphDeepUptoCardSaid : Prop := Claim7.holds Tryz.pinned (.plain (OpenSpec.upto exphDeepSpec)) exphDeepUptoCard

/-- THE SECOND FORM's CARD OF 'hyglaw14.ExphSame'. -/
def exphSameUptoCard : Claim7 := { stood := { row := exphSameUptoRow, standIns := [], harness := (true, "efcf4db41e8af101797ff341e54a8d498af21a98060e6468f131ebcc2515c533"), looks := true }, kinds := [], alts := [], laidByText := true, laidKinds := [.handle], laidTests := true, laidLooks := .later }
def ExphSameUptoCardSaid : Prop := Claim7.holds Tryz.pinned (.plain (OpenSpec.upto exphSameSpec)) exphSameUptoCard

/-- THE SECOND FORM's CARD OF 'hyglaw14.ExphOthers'. -/
def exphOthersUptoCard : Claim7 := { stood := { row := exphOthersUptoRow, standIns := [], harness := (true, "efcf4db41e8af101797ff341e54a8d498af21a98060e6468f131ebcc2515c533"), looks := true }, kinds := [], alts := [], laidByText := true, laidKinds := [.handle], laidTests := true, laidLooks := .later }
def ExphOthersUptoCardSaid : Prop := Claim7.holds Tryz.pinned (.plain (OpenSpec.upto exphOthersSpec)) exphOthersUptoCard

/-- THE SECOND FORM's CARD OF 'hyglaw14.ExphBack'. -/
def exphBackUptoCard : Claim7 := { stood := { row := exphBackUptoRow, standIns := [], harness := (true, "efcf4db41e8af101797ff341e54a8d498af21a98060e6468f131ebcc2515c533"), looks := true }, kinds := [], alts := [], laidByText := true, laidKinds := [.handle], laidTests := true, laidLooks := .later }
def ExphBackUptoCardSaid : Prop := Claim7.holds Tryz.pinned (.plain (OpenSpec.upto exphBackSpec)) exphBackUptoCard

/-- THE SECOND FORM's CARD OF 'hyglaw14.ExphTwice'. -/
def exphTwiceUptoCard : Claim7 := { stood := { row := exphTwiceUptoRow, standIns := [], harness := (true, "efcf4db41e8af101797ff341e54a8d498af21a98060e6468f131ebcc2515c533"), looks := true }, kinds := [], alts := [], laidByText := true, laidKinds := [.handle], laidTests := true, laidLooks := .later }
def ExphTwiceUptoCardSaid : Prop := Claim7.holds Tryz.pinned (.plain (OpenSpec.upto exphTwiceSpec)) exphTwiceUptoCard

/-- THE SECOND FORM's CARD OF 'hyglaw14.ExphWrites'. -/
def exphWritesUptoCard : Claim7 := { stood := { row := exphWritesUptoRow, standIns := [], harness := (true, "efcf4db41e8af101797ff341e54a8d498af21a98060e6468f131ebcc2515c533"), looks := true }, kinds := [], alts := [], laidByText := true, laidKinds := [.handle], laidTests := true, laidLooks := .later }
def ExphWritesUptoCardSaid : Prop := Claim7.holds Tryz.pinned (.plain (OpenSpec.upto exphWritesSpec)) exphWritesUptoCard
end Rows
end Go.Proofs.YtcinfkbdmjnjlaaGreatDoor
