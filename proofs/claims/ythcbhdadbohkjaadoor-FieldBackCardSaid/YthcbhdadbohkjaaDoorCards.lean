/-
  DERIVED. GIVEN WITH THE SEED: THE CARDS: each row of YthcbhdadbohkjaaDoorRows.lean that lists a variable, with what it lists TIED to the program's text (the seventh form; the later family's looks); each row that meets fmt, with fmt's text TOLD by the authors' own Lean function (tested against real Go, not proved from fmt's source: count such statements apart). THE CARD IS WHAT COUNTS. Prove the row's statement (the work); the ties are given (YthcbhdadbohkjaaDoorTie.lean); close each card by the builder's one call (the guide's Derived/Test/ToyasCard.lean, 'card_holds'). Laid BY PROGRAM, IN A SANDBOX (cutbox-door.mjs). By AI agents, Wed Nov 11 2026. No macro, syntax, notation, axiom, sorry.
-/
import Derived.Test.YthcbhdadbohkjaaDoorRows
import GoSem.ClaimSeven
namespace Go.Proofs.YthcbhdadbohkjaaDoor
namespace Rows

/-- THE TIED CARD OF 'weirkeeplaw02.CheckApart'. -/
def checkApartCard : Claim7 := { stood := { row := checkApartRow, standIns := [], harness := (true, "1a34da078b679cf97fe624f385eadc9fadd9ba14eecfc162b389ed065cdd8c1a"), looks := true }, kinds := [], alts := [], laidByText := true, laidKinds := [.data], laidTests := true, laidLooks := .later }
def CheckApartCardSaid : Prop := Claim7.holds Tryd.pinned (.plain (OpenSpec.ofChange checkApartSpec)) checkApartCard

/-- THE TIED CARD OF 'weirkeeplaw02.CheckSums'. -/
def checkSumsCard : Claim7 := { stood := { row := checkSumsRow, standIns := [], harness := (true, "1a34da078b679cf97fe624f385eadc9fadd9ba14eecfc162b389ed065cdd8c1a"), looks := true }, kinds := [], alts := [], laidByText := true, laidKinds := [.data], laidTests := true, laidLooks := .later }
def CheckSumsCardSaid : Prop := Claim7.holds Tryd.pinned (.plain (OpenSpec.ofChange checkSumsSpec)) checkSumsCard

/-- THE TIED CARD OF 'weirkeeplaw02.CheckBack'. -/
def checkBackCard : Claim7 := { stood := { row := checkBackRow, standIns := [], harness := (true, "1a34da078b679cf97fe624f385eadc9fadd9ba14eecfc162b389ed065cdd8c1a"), looks := true }, kinds := [], alts := [], laidByText := true, laidKinds := [.data], laidTests := true, laidLooks := .later }
def CheckBackCardSaid : Prop := Claim7.holds Tryd.pinned (.plain (OpenSpec.ofChange checkBackSpec)) checkBackCard

/-- THE TIED CARD OF 'weirkeeplaw02.CheckChanged'. -/
def checkChangedCard : Claim7 := { stood := { row := checkChangedRow, standIns := [], harness := (true, "1a34da078b679cf97fe624f385eadc9fadd9ba14eecfc162b389ed065cdd8c1a"), looks := true }, kinds := [], alts := [], laidByText := true, laidKinds := [.data], laidTests := true, laidLooks := .later }
def CheckChangedCardSaid : Prop := Claim7.holds Tryd.pinned (.plain (OpenSpec.ofChange checkChangedSpec)) checkChangedCard

/-- THE TIED CARD OF 'weirkeeplaw02.CheckTwice'. -/
def checkTwiceCard : Claim7 := { stood := { row := checkTwiceRow, standIns := [], harness := (true, "1a34da078b679cf97fe624f385eadc9fadd9ba14eecfc162b389ed065cdd8c1a"), looks := true }, kinds := [], alts := [], laidByText := true, laidKinds := [.data], laidTests := true, laidLooks := .later }
def CheckTwiceCardSaid : Prop := Claim7.holds Tryd.pinned (.plain (OpenSpec.ofChange checkTwiceSpec)) checkTwiceCard

/-- THE TIED CARD OF 'weirkeeplaw02.CheckShort'. -/
def checkShortCard : Claim7 := { stood := { row := checkShortRow, standIns := [], harness := (true, "1a34da078b679cf97fe624f385eadc9fadd9ba14eecfc162b389ed065cdd8c1a"), looks := true }, kinds := [], alts := [], laidByText := true, laidKinds := [.data], laidTests := true, laidLooks := .later }
def CheckShortCardSaid : Prop := Claim7.holds Tryd.pinned (.plain (OpenSpec.ofChange checkShortSpec)) checkShortCard

/-- THE TIED CARD OF 'weirkeeplaw01.FieldWide'. -/
def fieldWideCard : Claim7 := { stood := { row := fieldWideRow, standIns := [], harness := (true, "1a34da078b679cf97fe624f385eadc9fadd9ba14eecfc162b389ed065cdd8c1a"), looks := true }, kinds := [], alts := [], laidByText := true, laidKinds := [.handle], laidTests := true, laidLooks := .later }
def FieldWideCardSaid : Prop := Claim7.holds Tryd.pinned (.plain (OpenSpec.ofChange fieldWideSpec)) fieldWideCard

/-- THE TIED CARD OF 'weirkeeplaw01.FieldWrites'. -/
def fieldWritesCard : Claim7 := { stood := { row := fieldWritesRow, standIns := [], harness := (true, "1a34da078b679cf97fe624f385eadc9fadd9ba14eecfc162b389ed065cdd8c1a"), looks := true }, kinds := [], alts := [], laidByText := true, laidKinds := [.handle], laidTests := true, laidLooks := .later }
def FieldWritesCardSaid : Prop := Claim7.holds Tryd.pinned (.plain (OpenSpec.ofChange fieldWritesSpec)) fieldWritesCard

/-- THE TIED CARD OF 'weirkeeplaw01.FieldReads'. -/
def fieldReadsCard : Claim7 := { stood := { row := fieldReadsRow, standIns := [], harness := (true, "1a34da078b679cf97fe624f385eadc9fadd9ba14eecfc162b389ed065cdd8c1a"), looks := true }, kinds := [], alts := [], laidByText := true, laidKinds := [.handle], laidTests := true, laidLooks := .later }
def FieldReadsCardSaid : Prop := Claim7.holds Tryd.pinned (.plain (OpenSpec.ofChange fieldReadsSpec)) fieldReadsCard

/-- THE TIED CARD OF 'weirkeeplaw01.FieldCut'. -/
def fieldCutCard : Claim7 := { stood := { row := fieldCutRow, standIns := [], harness := (true, "1a34da078b679cf97fe624f385eadc9fadd9ba14eecfc162b389ed065cdd8c1a"), looks := true }, kinds := [], alts := [], laidByText := true, laidKinds := [.handle], laidTests := true, laidLooks := .later }
def FieldCutCardSaid : Prop := Claim7.holds Tryd.pinned (.plain (OpenSpec.ofChange fieldCutSpec)) fieldCutCard

/-- THE TIED CARD OF 'weirkeeplaw01.FieldJoined'. -/
def fieldJoinedCard : Claim7 := { stood := { row := fieldJoinedRow, standIns := [], harness := (true, "1a34da078b679cf97fe624f385eadc9fadd9ba14eecfc162b389ed065cdd8c1a"), looks := true }, kinds := [], alts := [], laidByText := true, laidKinds := [.handle], laidTests := true, laidLooks := .later }
def FieldJoinedCardSaid : Prop := Claim7.holds Tryd.pinned (.plain (OpenSpec.ofChange fieldJoinedSpec)) fieldJoinedCard

/-- THE TIED CARD OF 'weirkeeplaw01.FieldBack'. -/
def fieldBackCard : Claim7 := { stood := { row := fieldBackRow, standIns := [], harness := (true, "1a34da078b679cf97fe624f385eadc9fadd9ba14eecfc162b389ed065cdd8c1a"), looks := true }, kinds := [], alts := [], laidByText := true, laidKinds := [.handle], laidTests := true, laidLooks := .later }
def FieldBackCardSaid : Prop := Claim7.holds Tryd.pinned (.plain (OpenSpec.ofChange fieldBackSpec)) fieldBackCard

/-- THE SECOND FORM's CARD OF 'weirkeeplaw02.CheckApart'. -/
def checkApartUptoCard : Claim7 := { stood := { row := checkApartUptoRow, standIns := [], harness := (true, "1a34da078b679cf97fe624f385eadc9fadd9ba14eecfc162b389ed065cdd8c1a"), looks := true }, kinds := [], alts := [], laidByText := true, laidKinds := [.data], laidTests := true, laidLooks := .later }
def CheckApartUptoCardSaid : Prop := Claim7.holds Tryd.pinned (.plain (OpenSpec.upto checkApartSpec)) checkApartUptoCard

/-- THE SECOND FORM's CARD OF 'weirkeeplaw02.CheckSums'. -/
def checkSumsUptoCard : Claim7 := { stood := { row := checkSumsUptoRow, standIns := [], harness := (true, "1a34da078b679cf97fe624f385eadc9fadd9ba14eecfc162b389ed065cdd8c1a"), looks := true }, kinds := [], alts := [], laidByText := true, laidKinds := [.data], laidTests := true, laidLooks := .later }
def CheckSumsUptoCardSaid : Prop := Claim7.holds Tryd.pinned (.plain (OpenSpec.upto checkSumsSpec)) checkSumsUptoCard

/-- THE SECOND FORM's CARD OF 'weirkeeplaw02.CheckBack'. -/
def checkBackUptoCard : Claim7 := { stood := { row := checkBackUptoRow, standIns := [], harness := (true, "1a34da078b679cf97fe624f385eadc9fadd9ba14eecfc162b389ed065cdd8c1a"), looks := true }, kinds := [], alts := [], laidByText := true, laidKinds := [.data], laidTests := true, laidLooks := .later }
def CheckBackUptoCardSaid : Prop := Claim7.holds Tryd.pinned (.plain (OpenSpec.upto checkBackSpec)) checkBackUptoCard

/-- THE SECOND FORM's CARD OF 'weirkeeplaw02.CheckChanged'. -/
def checkChangedUptoCard : Claim7 := { stood := { row := checkChangedUptoRow, standIns := [], harness := (true, "1a34da078b679cf97fe624f385eadc9fadd9ba14eecfc162b389ed065cdd8c1a"), looks := true }, kinds := [], alts := [], laidByText := true, laidKinds := [.data], laidTests := true, laidLooks := .later }
def CheckChangedUptoCardSaid : Prop := Claim7.holds Tryd.pinned (.plain (OpenSpec.upto checkChangedSpec)) checkChangedUptoCard

/-- THE SECOND FORM's CARD OF 'weirkeeplaw02.CheckTwice'. -/
def checkTwiceUptoCard : Claim7 := { stood := { row := checkTwiceUptoRow, standIns := [], harness := (true, "1a34da078b679cf97fe624f385eadc9fadd9ba14eecfc162b389ed065cdd8c1a"), looks := true }, kinds := [], alts := [], laidByText := true, laidKinds := [.data], laidTests := true, laidLooks := .later }
def CheckTwiceUptoCardSaid : Prop := Claim7.holds Tryd.pinned (.plain (OpenSpec.upto checkTwiceSpec)) checkTwiceUptoCard

/-- THE SECOND FORM's CARD OF 'weirkeeplaw02.CheckShort'. -/
def checkShortUptoCard : Claim7 := { stood := { row := checkShortUptoRow, standIns := [], harness := (true, "1a34da078b679cf97fe624f385eadc9fadd9ba14eecfc162b389ed065cdd8c1a"), looks := true }, kinds := [], alts := [], laidByText := true, laidKinds := [.data], laidTests := true, laidLooks := .later }
def CheckShortUptoCardSaid : Prop := Claim7.holds Tryd.pinned (.plain (OpenSpec.upto checkShortSpec)) checkShortUptoCard

/-- THE SECOND FORM's CARD OF 'weirkeeplaw01.FieldWide'. -/
def fieldWideUptoCard : Claim7 := { stood := { row := fieldWideUptoRow, standIns := [], harness := (true, "1a34da078b679cf97fe624f385eadc9fadd9ba14eecfc162b389ed065cdd8c1a"), looks := true }, kinds := [], alts := [], laidByText := true, laidKinds := [.handle], laidTests := true, laidLooks := .later }
def FieldWideUptoCardSaid : Prop := Claim7.holds Tryd.pinned (.plain (OpenSpec.upto fieldWideSpec)) fieldWideUptoCard

/-- THE SECOND FORM's CARD OF 'weirkeeplaw01.FieldWrites'. -/
def fieldWritesUptoCard : Claim7 := { stood := { row := fieldWritesUptoRow, standIns := [], harness := (true, "1a34da078b679cf97fe624f385eadc9fadd9ba14eecfc162b389ed065cdd8c1a"), looks := true }, kinds := [], alts := [], laidByText := true, laidKinds := [.handle], laidTests := true, laidLooks := .later }
def FieldWritesUptoCardSaid : Prop := Claim7.holds Tryd.pinned (.plain (OpenSpec.upto fieldWritesSpec)) fieldWritesUptoCard

/-- THE SECOND FORM's CARD OF 'weirkeeplaw01.FieldReads'. -/
def fieldReadsUptoCard : Claim7 := { stood := { row := fieldReadsUptoRow, standIns := [], harness := (true, "1a34da078b679cf97fe624f385eadc9fadd9ba14eecfc162b389ed065cdd8c1a"), looks := true }, kinds := [], alts := [], laidByText := true, laidKinds := [.handle], laidTests := true, laidLooks := .later }
def FieldReadsUptoCardSaid : Prop := Claim7.holds Tryd.pinned (.plain (OpenSpec.upto fieldReadsSpec)) fieldReadsUptoCard

/-- THE SECOND FORM's CARD OF 'weirkeeplaw01.FieldCut'. -/
def fieldCutUptoCard : Claim7 := { stood := { row := fieldCutUptoRow, standIns := [], harness := (true, "1a34da078b679cf97fe624f385eadc9fadd9ba14eecfc162b389ed065cdd8c1a"), looks := true }, kinds := [], alts := [], laidByText := true, laidKinds := [.handle], laidTests := true, laidLooks := .later }
def FieldCutUptoCardSaid : Prop := Claim7.holds Tryd.pinned (.plain (OpenSpec.upto fieldCutSpec)) fieldCutUptoCard

/-- THE SECOND FORM's CARD OF 'weirkeeplaw01.FieldJoined'. -/
def fieldJoinedUptoCard : Claim7 := { stood := { row := fieldJoinedUptoRow, standIns := [], harness := (true, "1a34da078b679cf97fe624f385eadc9fadd9ba14eecfc162b389ed065cdd8c1a"), looks := true }, kinds := [], alts := [], laidByText := true, laidKinds := [.handle], laidTests := true, laidLooks := .later }
def FieldJoinedUptoCardSaid : Prop := Claim7.holds Tryd.pinned (.plain (OpenSpec.upto fieldJoinedSpec)) fieldJoinedUptoCard

/-- THE SECOND FORM's CARD OF 'weirkeeplaw01.FieldBack'. -/
def fieldBackUptoCard : Claim7 := { stood := { row := fieldBackUptoRow, standIns := [], harness := (true, "1a34da078b679cf97fe624f385eadc9fadd9ba14eecfc162b389ed065cdd8c1a"), looks := true }, kinds := [], alts := [], laidByText := true, laidKinds := [.handle], laidTests := true, laidLooks := .later }
def FieldBackUptoCardSaid : Prop := Claim7.holds Tryd.pinned (.plain (OpenSpec.upto fieldBackSpec)) fieldBackUptoCard
end Rows
end Go.Proofs.YthcbhdadbohkjaaDoor
