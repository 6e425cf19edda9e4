/-
  DERIVED. GIVEN WITH THE SEED: THE CARDS: each row of YtijjbkkcienfgaaDoorRows.lean that lists a variable, with what it lists TIED to the program's text (the seventh form; the later family's looks); each row that meets fmt, with fmt's text TOLD by the authors' own Lean function (tested against real Go, not proved from fmt's source: count such statements apart). THE CARD IS WHAT COUNTS. Prove the row's statement (the work); the ties are given (YtijjbkkcienfgaaDoorTie.lean); close each card by the builder's one call (the guide's Derived/Test/ToyasCard.lean, 'card_holds'). Laid BY PROGRAM, IN A SANDBOX (cutbox-door.mjs). By AI agents, Wed Nov 11 2026. No macro, syntax, notation, axiom, sorry.
-/
import Derived.Test.YtijjbkkcienfgaaDoorRows
import GoSem.ClaimSeven
namespace Go.Proofs.YtijjbkkcienfgaaDoor
namespace Rows

/-- THE TIED CARD OF 'weirkeeplaw17.GrantDead'. -/
def grantDeadCard : Claim7 := { stood := { row := grantDeadRow, standIns := [], harness := (true, "ef9bff7cf5d1532020c4c4ee71ae9ae61ae38c649959c2291a0ca8d0835698e3"), looks := false }, kinds := [], alts := [], laidByText := true, laidKinds := [.data, .funcs], laidTests := true, laidLooks := .later }
def GrantDeadCardSaid : Prop := Claim7.holds Tryd.pinned (.plain (OpenSpec.ofChange grantDeadSpec)) grantDeadCard

/-- THE TIED CARD OF 'weirkeeplaw17.GrantLives'. -/
def grantLivesCard : Claim7 := { stood := { row := grantLivesRow, standIns := [], harness := (true, "ef9bff7cf5d1532020c4c4ee71ae9ae61ae38c649959c2291a0ca8d0835698e3"), looks := false }, kinds := [], alts := [], laidByText := true, laidKinds := [.data, .funcs], laidTests := true, laidLooks := .later }
def GrantLivesCardSaid : Prop := Claim7.holds Tryd.pinned (.plain (OpenSpec.ofChange grantLivesSpec)) grantLivesCard

/-- THE TIED CARD OF 'weirkeeplaw17.GrantScript'. -/
def grantScriptCard : Claim7 := { stood := { row := grantScriptRow, standIns := [], harness := (true, "ef9bff7cf5d1532020c4c4ee71ae9ae61ae38c649959c2291a0ca8d0835698e3"), looks := false }, kinds := [], alts := [], laidByText := true, laidKinds := [.data, .funcs], laidTests := true, laidLooks := .later }
def GrantScriptCardSaid : Prop := Claim7.holds Tryd.pinned (.plain (OpenSpec.ofChange grantScriptSpec)) grantScriptCard

/-- THE TIED CARD OF 'weirkeeplaw17.GrantApart'. -/
def grantApartCard : Claim7 := { stood := { row := grantApartRow, standIns := [], harness := (true, "ef9bff7cf5d1532020c4c4ee71ae9ae61ae38c649959c2291a0ca8d0835698e3"), looks := false }, kinds := [], alts := [], laidByText := true, laidKinds := [.data, .funcs], laidTests := true, laidLooks := .later }
def GrantApartCardSaid : Prop := Claim7.holds Tryd.pinned (.plain (OpenSpec.ofChange grantApartSpec)) grantApartCard

/-- THE TIED CARD OF 'weirkeeplaw17.GrantServes'. -/
def grantServesCard : Claim7 := { stood := { row := grantServesRow, standIns := [], harness := (true, "ef9bff7cf5d1532020c4c4ee71ae9ae61ae38c649959c2291a0ca8d0835698e3"), looks := false }, kinds := [], alts := [], laidByText := true, laidKinds := [.data, .funcs], laidTests := true, laidLooks := .later }
def GrantServesCardSaid : Prop := Claim7.holds Tryd.pinned (.plain (OpenSpec.ofChange grantServesSpec)) grantServesCard

/-- THE TIED CARD OF 'weirkeeplaw17.GrantReaders'. -/
def grantReadersCard : Claim7 := { stood := { row := grantReadersRow, standIns := [], harness := (true, "ef9bff7cf5d1532020c4c4ee71ae9ae61ae38c649959c2291a0ca8d0835698e3"), looks := false }, kinds := [], alts := [], laidByText := true, laidKinds := [.data, .funcs], laidTests := true, laidLooks := .later }
def GrantReadersCardSaid : Prop := Claim7.holds Tryd.pinned (.plain (OpenSpec.ofChange grantReadersSpec)) grantReadersCard

/-- THE TIED CARD OF 'weirkeeplaw17.GrantCancels'. -/
def grantCancelsCard : Claim7 := { stood := { row := grantCancelsRow, standIns := [], harness := (true, "ef9bff7cf5d1532020c4c4ee71ae9ae61ae38c649959c2291a0ca8d0835698e3"), looks := false }, kinds := [], alts := [], laidByText := true, laidKinds := [.data, .funcs], laidTests := true, laidLooks := .later }
def GrantCancelsCardSaid : Prop := Claim7.holds Tryd.pinned (.plain (OpenSpec.ofChange grantCancelsSpec)) grantCancelsCard

/-- THE TIED CARD OF 'weirkeeplaw17.GrantReplays'. -/
def grantReplaysCard : Claim7 := { stood := { row := grantReplaysRow, standIns := [], harness := (true, "ef9bff7cf5d1532020c4c4ee71ae9ae61ae38c649959c2291a0ca8d0835698e3"), looks := false }, kinds := [], alts := [], laidByText := true, laidKinds := [.data, .funcs], laidTests := true, laidLooks := .later }
def GrantReplaysCardSaid : Prop := Claim7.holds Tryd.pinned (.plain (OpenSpec.ofChange grantReplaysSpec)) grantReplaysCard

/-- THE SECOND FORM's CARD OF 'weirkeeplaw17.GrantDead'. -/
def grantDeadUptoCard : Claim7 := { stood := { row := grantDeadUptoRow, standIns := [], harness := (true, "ef9bff7cf5d1532020c4c4ee71ae9ae61ae38c649959c2291a0ca8d0835698e3"), looks := false }, kinds := [], alts := [], laidByText := true, laidKinds := [.data, .funcs], laidTests := true, laidLooks := .later }
def GrantDeadUptoCardSaid : Prop := Claim7.holds Tryd.pinned (.plain (OpenSpec.upto grantDeadSpec)) grantDeadUptoCard

/-- THE SECOND FORM's CARD OF 'weirkeeplaw17.GrantLives'. -/
def grantLivesUptoCard : Claim7 := { stood := { row := grantLivesUptoRow, standIns := [], harness := (true, "ef9bff7cf5d1532020c4c4ee71ae9ae61ae38c649959c2291a0ca8d0835698e3"), looks := false }, kinds := [], alts := [], laidByText := true, laidKinds := [.data, .funcs], laidTests := true, laidLooks := .later }
def GrantLivesUptoCardSaid : Prop := Claim7.holds Tryd.pinned (.plain (OpenSpec.upto grantLivesSpec)) grantLivesUptoCard

/-- THE SECOND FORM's CARD OF 'weirkeeplaw17.GrantScript'. -/
def grantScriptUptoCard : Claim7 := { stood := { row := grantScriptUptoRow, standIns := [], harness := (true, "ef9bff7cf5d1532020c4c4ee71ae9ae61ae38c649959c2291a0ca8d0835698e3"), looks := false }, kinds := [], alts := [], laidByText := true, laidKinds := [.data, .funcs], laidTests := true, laidLooks := .later }
def GrantScriptUptoCardSaid : Prop := Claim7.holds Tryd.pinned (.plain (OpenSpec.upto grantScriptSpec)) grantScriptUptoCard

/-- THE SECOND FORM's CARD OF 'weirkeeplaw17.GrantApart'. -/
def grantApartUptoCard : Claim7 := { stood := { row := grantApartUptoRow, standIns := [], harness := (true, "ef9bff7cf5d1532020c4c4ee71ae9ae61ae38c649959c2291a0ca8d0835698e3"), looks := false }, kinds := [], alts := [], laidByText := true, laidKinds := [.data, .funcs], laidTests := true, laidLooks := .later }
def GrantApartUptoCardSaid : Prop := Claim7.holds Tryd.pinned (.plain (OpenSpec.upto grantApartSpec)) grantApartUptoCard

/-- THE SECOND FORM's CARD OF 'weirkeeplaw17.GrantServes'. -/
def grantServesUptoCard : Claim7 := { stood := { row := grantServesUptoRow, standIns := [], harness := (true, "ef9bff7cf5d1532020c4c4ee71ae9ae61ae38c649959c2291a0ca8d0835698e3"), looks := false }, kinds := [], alts := [], laidByText := true, laidKinds := [.data, .funcs], laidTests := true, laidLooks := .later }
def GrantServesUptoCardSaid : Prop := Claim7.holds Tryd.pinned (.plain (OpenSpec.upto grantServesSpec)) grantServesUptoCard

/-- THE SECOND FORM's CARD OF 'weirkeeplaw17.GrantReaders'. -/
def grantReadersUptoCard : Claim7 := { stood := { row := grantReadersUptoRow, standIns := [], harness := (true, "ef9bff7cf5d1532020c4c4ee71ae9ae61ae38c649959c2291a0ca8d0835698e3"), looks := false }, kinds := [], alts := [], laidByText := true, laidKinds := [.data, .funcs], laidTests := true, laidLooks := .later }
def GrantReadersUptoCardSaid : Prop := Claim7.holds Tryd.pinned (.plain (OpenSpec.upto grantReadersSpec)) grantReadersUptoCard

/-- THE SECOND FORM's CARD OF 'weirkeeplaw17.GrantCancels'. -/
def grantCancelsUptoCard : Claim7 := { stood := { row := grantCancelsUptoRow, standIns := [], harness := (true, "ef9bff7cf5d1532020c4c4ee71ae9ae61ae38c649959c2291a0ca8d0835698e3"), looks := false }, kinds := [], alts := [], laidByText := true, laidKinds := [.data, .funcs], laidTests := true, laidLooks := .later }
def GrantCancelsUptoCardSaid : Prop := Claim7.holds Tryd.pinned (.plain (OpenSpec.upto grantCancelsSpec)) grantCancelsUptoCard

/-- THE SECOND FORM's CARD OF 'weirkeeplaw17.GrantReplays'. -/
def grantReplaysUptoCard : Claim7 := { stood := { row := grantReplaysUptoRow, standIns := [], harness := (true, "ef9bff7cf5d1532020c4c4ee71ae9ae61ae38c649959c2291a0ca8d0835698e3"), looks := false }, kinds := [], alts := [], laidByText := true, laidKinds := [.data, .funcs], laidTests := true, laidLooks := .later }
def GrantReplaysUptoCardSaid : Prop := Claim7.holds Tryd.pinned (.plain (OpenSpec.upto grantReplaysSpec)) grantReplaysUptoCard
end Rows
end Go.Proofs.YtijjbkkcienfgaaDoor
