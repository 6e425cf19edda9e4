/-
  DERIVED. GIVEN WITH THE SEED: THE CARDS: each row of YtphcoenooinmfaaDoorRows.lean that lists a variable, with what it lists TIED to the program's text (the seventh form; the later family's looks); each row that meets fmt, with fmt's text TOLD by the authors' own Lean function (tested against real Go, not proved from fmt's source: count such statements apart). THE CARD IS WHAT COUNTS. Prove the row's statement (the work); the ties are given (YtphcoenooinmfaaDoorTie.lean); close each card by the builder's one call (the guide's Derived/Test/ToyasCard.lean, 'card_holds'). Laid BY PROGRAM, IN A SANDBOX (cutbox-door.mjs). By AI agents, Wed Nov 11 2026. No macro, syntax, notation, axiom, sorry.
-/
import Derived.Test.YtphcoenooinmfaaDoorRows
import GoSem.ClaimSeven
namespace Go.Proofs.YtphcoenooinmfaaDoor
namespace Rows

/-- THE TIED CARD OF 'weirkeeplaw10.BallotNumbers'. -/
def ballotNumbersCard : Claim7 := { stood := { row := ballotNumbersRow, standIns := [], harness := (true, "15a8d088761cdfb9bfd76c9da5181204eb38b8d2924eea9339c03bdf3faf1712"), looks := true }, kinds := [], alts := [], laidByText := true, laidKinds := [.data, .handle], laidTests := true, laidLooks := .later }
def BallotNumbersCardSaid : Prop := Claim7.holds Tryd.pinned (.plain (OpenSpec.ofChange ballotNumbersSpec)) ballotNumbersCard

/-- THE TIED CARD OF 'weirkeeplaw10.BallotChooses'. -/
def ballotChoosesCard : Claim7 := { stood := { row := ballotChoosesRow, standIns := [], harness := (true, "15a8d088761cdfb9bfd76c9da5181204eb38b8d2924eea9339c03bdf3faf1712"), looks := true }, kinds := [], alts := [], laidByText := true, laidKinds := [.data, .handle], laidTests := true, laidLooks := .later }
def BallotChoosesCardSaid : Prop := Claim7.holds Tryd.pinned (.plain (OpenSpec.ofChange ballotChoosesSpec)) ballotChoosesCard

/-- THE TIED CARD OF 'weirkeeplaw10.BallotOld'. -/
def ballotOldCard : Claim7 := { stood := { row := ballotOldRow, standIns := [], harness := (true, "15a8d088761cdfb9bfd76c9da5181204eb38b8d2924eea9339c03bdf3faf1712"), looks := true }, kinds := [], alts := [], laidByText := true, laidKinds := [.data, .handle], laidTests := true, laidLooks := .later }
def BallotOldCardSaid : Prop := Claim7.holds Tryd.pinned (.plain (OpenSpec.ofChange ballotOldSpec)) ballotOldCard

/-- THE TIED CARD OF 'weirkeeplaw03.WireEncodes'. -/
def wireEncodesCard : Claim7 := { stood := { row := wireEncodesRow, standIns := [], harness := (true, "15a8d088761cdfb9bfd76c9da5181204eb38b8d2924eea9339c03bdf3faf1712"), looks := true }, kinds := [], alts := [], laidByText := true, laidKinds := [.data, .handle], laidTests := true, laidLooks := .later }
def WireEncodesCardSaid : Prop := Claim7.holds Tryd.pinned (.plain (OpenSpec.ofChange wireEncodesSpec)) wireEncodesCard

/-- THE TIED CARD OF 'weirkeeplaw03.WireDecodes'. -/
def wireDecodesCard : Claim7 := { stood := { row := wireDecodesRow, standIns := [], harness := (true, "15a8d088761cdfb9bfd76c9da5181204eb38b8d2924eea9339c03bdf3faf1712"), looks := true }, kinds := [], alts := [], laidByText := true, laidKinds := [.data, .handle], laidTests := true, laidLooks := .later }
def WireDecodesCardSaid : Prop := Claim7.holds Tryd.pinned (.plain (OpenSpec.ofChange wireDecodesSpec)) wireDecodesCard

/-- THE TIED CARD OF 'weirkeeplaw03.WireApart'. -/
def wireApartCard : Claim7 := { stood := { row := wireApartRow, standIns := [], harness := (true, "15a8d088761cdfb9bfd76c9da5181204eb38b8d2924eea9339c03bdf3faf1712"), looks := true }, kinds := [], alts := [], laidByText := true, laidKinds := [.data, .handle], laidTests := true, laidLooks := .later }
def WireApartCardSaid : Prop := Claim7.holds Tryd.pinned (.plain (OpenSpec.ofChange wireApartSpec)) wireApartCard

/-- THE TIED CARD OF 'weirkeeplaw10.BallotLoads'. -/
def ballotLoadsCard : Claim7 := { stood := { row := ballotLoadsRow, standIns := [], harness := (true, "15a8d088761cdfb9bfd76c9da5181204eb38b8d2924eea9339c03bdf3faf1712"), looks := true }, kinds := [], alts := [], laidByText := true, laidKinds := [.data, .handle], laidTests := true, laidLooks := .later }
def BallotLoadsCardSaid : Prop := Claim7.holds Tryd.pinned (.plain (OpenSpec.ofChange ballotLoadsSpec)) ballotLoadsCard

/-- THE TIED CARD OF 'weirkeeplaw10.BallotScript'. -/
def ballotScriptCard : Claim7 := { stood := { row := ballotScriptRow, standIns := [], harness := (true, "15a8d088761cdfb9bfd76c9da5181204eb38b8d2924eea9339c03bdf3faf1712"), looks := true }, kinds := [], alts := [], laidByText := true, laidKinds := [.data, .handle], laidTests := true, laidLooks := .later }
def BallotScriptCardSaid : Prop := Claim7.holds Tryd.pinned (.plain (OpenSpec.ofChange ballotScriptSpec)) ballotScriptCard

/-- THE TIED CARD OF 'weirkeeplaw10.BallotSaves'. -/
def ballotSavesCard : Claim7 := { stood := { row := ballotSavesRow, standIns := [], harness := (true, "15a8d088761cdfb9bfd76c9da5181204eb38b8d2924eea9339c03bdf3faf1712"), looks := true }, kinds := [], alts := [], laidByText := true, laidKinds := [.data, .handle], laidTests := true, laidLooks := .later }
def BallotSavesCardSaid : Prop := Claim7.holds Tryd.pinned (.plain (OpenSpec.ofChange ballotSavesSpec)) ballotSavesCard

/-- THE TIED CARD OF 'weirkeeplaw03.WireChanged'. -/
def wireChangedCard : Claim7 := { stood := { row := wireChangedRow, standIns := [], harness := (true, "15a8d088761cdfb9bfd76c9da5181204eb38b8d2924eea9339c03bdf3faf1712"), looks := true }, kinds := [], alts := [], laidByText := true, laidKinds := [.data, .handle], laidTests := true, laidLooks := .later }
def WireChangedCardSaid : Prop := Claim7.holds Tryd.pinned (.plain (OpenSpec.ofChange wireChangedSpec)) wireChangedCard

/-- THE SECOND FORM's CARD OF 'weirkeeplaw10.BallotNumbers'. -/
def ballotNumbersUptoCard : Claim7 := { stood := { row := ballotNumbersUptoRow, standIns := [], harness := (true, "15a8d088761cdfb9bfd76c9da5181204eb38b8d2924eea9339c03bdf3faf1712"), looks := true }, kinds := [], alts := [], laidByText := true, laidKinds := [.data, .handle], laidTests := true, laidLooks := .later }
def BallotNumbersUptoCardSaid : Prop := Claim7.holds Tryd.pinned (.plain (OpenSpec.upto ballotNumbersSpec)) ballotNumbersUptoCard

/-- THE SECOND FORM's CARD OF 'weirkeeplaw10.BallotChooses'. -/
def ballotChoosesUptoCard : Claim7 := { stood := { row := ballotChoosesUptoRow, standIns := [], harness := (true, "15a8d088761cdfb9bfd76c9da5181204eb38b8d2924eea9339c03bdf3faf1712"), looks := true }, kinds := [], alts := [], laidByText := true, laidKinds := [.data, .handle], laidTests := true, laidLooks := .later }
def BallotChoosesUptoCardSaid : Prop := Claim7.holds Tryd.pinned (.plain (OpenSpec.upto ballotChoosesSpec)) ballotChoosesUptoCard

/-- THE SECOND FORM's CARD OF 'weirkeeplaw10.BallotOld'. -/
def ballotOldUptoCard : Claim7 := { stood := { row := ballotOldUptoRow, standIns := [], harness := (true, "15a8d088761cdfb9bfd76c9da5181204eb38b8d2924eea9339c03bdf3faf1712"), looks := true }, kinds := [], alts := [], laidByText := true, laidKinds := [.data, .handle], laidTests := true, laidLooks := .later }
def BallotOldUptoCardSaid : Prop := Claim7.holds Tryd.pinned (.plain (OpenSpec.upto ballotOldSpec)) ballotOldUptoCard

/-- THE SECOND FORM's CARD OF 'weirkeeplaw03.WireEncodes'. -/
def wireEncodesUptoCard : Claim7 := { stood := { row := wireEncodesUptoRow, standIns := [], harness := (true, "15a8d088761cdfb9bfd76c9da5181204eb38b8d2924eea9339c03bdf3faf1712"), looks := true }, kinds := [], alts := [], laidByText := true, laidKinds := [.data, .handle], laidTests := true, laidLooks := .later }
def WireEncodesUptoCardSaid : Prop := Claim7.holds Tryd.pinned (.plain (OpenSpec.upto wireEncodesSpec)) wireEncodesUptoCard

/-- THE SECOND FORM's CARD OF 'weirkeeplaw03.WireDecodes'. -/
def wireDecodesUptoCard : Claim7 := { stood := { row := wireDecodesUptoRow, standIns := [], harness := (true, "15a8d088761cdfb9bfd76c9da5181204eb38b8d2924eea9339c03bdf3faf1712"), looks := true }, kinds := [], alts := [], laidByText := true, laidKinds := [.data, .handle], laidTests := true, laidLooks := .later }
def WireDecodesUptoCardSaid : Prop := Claim7.holds Tryd.pinned (.plain (OpenSpec.upto wireDecodesSpec)) wireDecodesUptoCard

/-- THE SECOND FORM's CARD OF 'weirkeeplaw03.WireApart'. -/
def wireApartUptoCard : Claim7 := { stood := { row := wireApartUptoRow, standIns := [], harness := (true, "15a8d088761cdfb9bfd76c9da5181204eb38b8d2924eea9339c03bdf3faf1712"), looks := true }, kinds := [], alts := [], laidByText := true, laidKinds := [.data, .handle], laidTests := true, laidLooks := .later }
def WireApartUptoCardSaid : Prop := Claim7.holds Tryd.pinned (.plain (OpenSpec.upto wireApartSpec)) wireApartUptoCard

/-- THE SECOND FORM's CARD OF 'weirkeeplaw10.BallotLoads'. -/
def ballotLoadsUptoCard : Claim7 := { stood := { row := ballotLoadsUptoRow, standIns := [], harness := (true, "15a8d088761cdfb9bfd76c9da5181204eb38b8d2924eea9339c03bdf3faf1712"), looks := true }, kinds := [], alts := [], laidByText := true, laidKinds := [.data, .handle], laidTests := true, laidLooks := .later }
def BallotLoadsUptoCardSaid : Prop := Claim7.holds Tryd.pinned (.plain (OpenSpec.upto ballotLoadsSpec)) ballotLoadsUptoCard

/-- THE SECOND FORM's CARD OF 'weirkeeplaw10.BallotScript'. -/
def ballotScriptUptoCard : Claim7 := { stood := { row := ballotScriptUptoRow, standIns := [], harness := (true, "15a8d088761cdfb9bfd76c9da5181204eb38b8d2924eea9339c03bdf3faf1712"), looks := true }, kinds := [], alts := [], laidByText := true, laidKinds := [.data, .handle], laidTests := true, laidLooks := .later }
def BallotScriptUptoCardSaid : Prop := Claim7.holds Tryd.pinned (.plain (OpenSpec.upto ballotScriptSpec)) ballotScriptUptoCard

/-- THE SECOND FORM's CARD OF 'weirkeeplaw10.BallotSaves'. -/
def ballotSavesUptoCard : Claim7 := { stood := { row := ballotSavesUptoRow, standIns := [], harness := (true, "15a8d088761cdfb9bfd76c9da5181204eb38b8d2924eea9339c03bdf3faf1712"), looks := true }, kinds := [], alts := [], laidByText := true, laidKinds := [.data, .handle], laidTests := true, laidLooks := .later }
def BallotSavesUptoCardSaid : Prop := Claim7.holds Tryd.pinned (.plain (OpenSpec.upto ballotSavesSpec)) ballotSavesUptoCard

/-- THE SECOND FORM's CARD OF 'weirkeeplaw03.WireChanged'. -/
def wireChangedUptoCard : Claim7 := { stood := { row := wireChangedUptoRow, standIns := [], harness := (true, "15a8d088761cdfb9bfd76c9da5181204eb38b8d2924eea9339c03bdf3faf1712"), looks := true }, kinds := [], alts := [], laidByText := true, laidKinds := [.data, .handle], laidTests := true, laidLooks := .later }
def WireChangedUptoCardSaid : Prop := Claim7.holds Tryd.pinned (.plain (OpenSpec.upto wireChangedSpec)) wireChangedUptoCard
end Rows
end Go.Proofs.YtphcoenooinmfaaDoor
