/-
  DERIVED. GIVEN WITH THE SEED: THE CARDS: each row of YtkajedgghoboaaaDoorRows.lean that lists a variable, with what it lists TIED to the program's text (the seventh form; the later family's looks); each row that meets fmt, with fmt's text TOLD by the authors' own Lean function (tested against real Go, not proved from fmt's source: count such statements apart). THE CARD IS WHAT COUNTS. Prove the row's statement (the work); the ties are given (YtkajedgghoboaaaDoorTie.lean); close each card by the builder's one call (the guide's Derived/Test/ToyasCard.lean, 'card_holds'). Laid BY PROGRAM, IN A SANDBOX (cutbox-door.mjs). By AI agents, Wed Nov 11 2026. No macro, syntax, notation, axiom, sorry.
-/
import Derived.Test.YtkajedgghoboaaaDoorRows
import GoSem.ClaimSeven
namespace Go.Proofs.YtkajedgghoboaaaDoor
namespace Rows

/-- THE TIED CARD OF 'weirkeeplaw15.SpanReaders'. -/
def spanReadersCard : Claim7 := { stood := { row := spanReadersRow, standIns := [], harness := (true, "3500e6c444a7aafecaf3cb197a80b9ef8a1982e79dd4e79eaa131af7fa585106"), looks := false }, kinds := [], alts := [], laidByText := true, laidKinds := [.data], laidTests := true, laidLooks := .later }
def SpanReadersCardSaid : Prop := Claim7.holds Tryd.pinned (.plain (OpenSpec.ofChange spanReadersSpec)) spanReadersCard

/-- THE TIED CARD OF 'weirkeeplaw15.SpanParts'. -/
def spanPartsCard : Claim7 := { stood := { row := spanPartsRow, standIns := [], harness := (true, "3500e6c444a7aafecaf3cb197a80b9ef8a1982e79dd4e79eaa131af7fa585106"), looks := false }, kinds := [], alts := [], laidByText := true, laidKinds := [.data], laidTests := true, laidLooks := .later }
def SpanPartsCardSaid : Prop := Claim7.holds Tryd.pinned (.plain (OpenSpec.ofChange spanPartsSpec)) spanPartsCard

/-- THE TIED CARD OF 'weirkeeplaw15.SpanScript'. -/
def spanScriptCard : Claim7 := { stood := { row := spanScriptRow, standIns := [], harness := (true, "3500e6c444a7aafecaf3cb197a80b9ef8a1982e79dd4e79eaa131af7fa585106"), looks := false }, kinds := [], alts := [], laidByText := true, laidKinds := [.data], laidTests := true, laidLooks := .later }
def SpanScriptCardSaid : Prop := Claim7.holds Tryd.pinned (.plain (OpenSpec.ofChange spanScriptSpec)) spanScriptCard

/-- THE TIED CARD OF 'weirkeeplaw15.SpanApart'. -/
def spanApartCard : Claim7 := { stood := { row := spanApartRow, standIns := [], harness := (true, "3500e6c444a7aafecaf3cb197a80b9ef8a1982e79dd4e79eaa131af7fa585106"), looks := false }, kinds := [], alts := [], laidByText := true, laidKinds := [.data], laidTests := true, laidLooks := .later }
def SpanApartCardSaid : Prop := Claim7.holds Tryd.pinned (.plain (OpenSpec.ofChange spanApartSpec)) spanApartCard

/-- THE TIED CARD OF 'weirkeeplaw15.SpanPuts'. -/
def spanPutsCard : Claim7 := { stood := { row := spanPutsRow, standIns := [], harness := (true, "3500e6c444a7aafecaf3cb197a80b9ef8a1982e79dd4e79eaa131af7fa585106"), looks := false }, kinds := [], alts := [], laidByText := true, laidKinds := [.data], laidTests := true, laidLooks := .later }
def SpanPutsCardSaid : Prop := Claim7.holds Tryd.pinned (.plain (OpenSpec.ofChange spanPutsSpec)) spanPutsCard

/-- THE TIED CARD OF 'weirkeeplaw15.SpanDrops'. -/
def spanDropsCard : Claim7 := { stood := { row := spanDropsRow, standIns := [], harness := (true, "3500e6c444a7aafecaf3cb197a80b9ef8a1982e79dd4e79eaa131af7fa585106"), looks := false }, kinds := [], alts := [], laidByText := true, laidKinds := [.data], laidTests := true, laidLooks := .later }
def SpanDropsCardSaid : Prop := Claim7.holds Tryd.pinned (.plain (OpenSpec.ofChange spanDropsSpec)) spanDropsCard

/-- THE TIED CARD OF 'weirkeeplaw20.ClerkLeft'. -/
def clerkLeftCard : Claim7 := { stood := { row := clerkLeftRow, standIns := [], harness := (true, "3500e6c444a7aafecaf3cb197a80b9ef8a1982e79dd4e79eaa131af7fa585106"), looks := false }, kinds := [], alts := [], laidByText := true, laidKinds := [.data], laidTests := true, laidLooks := .later }
def ClerkLeftCardSaid : Prop := Claim7.holds Tryd.pinned (.plain (OpenSpec.ofChange clerkLeftSpec)) clerkLeftCard

/-- THE TIED CARD OF 'weirkeeplaw20.ClerkMay'. -/
def clerkMayCard : Claim7 := { stood := { row := clerkMayRow, standIns := [], harness := (true, "3500e6c444a7aafecaf3cb197a80b9ef8a1982e79dd4e79eaa131af7fa585106"), looks := false }, kinds := [], alts := [], laidByText := true, laidKinds := [.data], laidTests := true, laidLooks := .later }
def ClerkMayCardSaid : Prop := Claim7.holds Tryd.pinned (.plain (OpenSpec.ofChange clerkMaySpec)) clerkMayCard

/-- THE TIED CARD OF 'weirkeeplaw20.ClerkStamps'. -/
def clerkStampsCard : Claim7 := { stood := { row := clerkStampsRow, standIns := [], harness := (true, "3500e6c444a7aafecaf3cb197a80b9ef8a1982e79dd4e79eaa131af7fa585106"), looks := false }, kinds := [], alts := [], laidByText := true, laidKinds := [.data], laidTests := true, laidLooks := .later }
def ClerkStampsCardSaid : Prop := Claim7.holds Tryd.pinned (.plain (OpenSpec.ofChange clerkStampsSpec)) clerkStampsCard

/-- THE TIED CARD OF 'weirkeeplaw20.ClerkGives'. -/
def clerkGivesCard : Claim7 := { stood := { row := clerkGivesRow, standIns := [], harness := (true, "3500e6c444a7aafecaf3cb197a80b9ef8a1982e79dd4e79eaa131af7fa585106"), looks := false }, kinds := [], alts := [], laidByText := true, laidKinds := [.data], laidTests := true, laidLooks := .later }
def ClerkGivesCardSaid : Prop := Claim7.holds Tryd.pinned (.plain (OpenSpec.ofChange clerkGivesSpec)) clerkGivesCard

/-- THE TIED CARD OF 'weirkeeplaw20.ClerkScript'. -/
def clerkScriptCard : Claim7 := { stood := { row := clerkScriptRow, standIns := [], harness := (true, "3500e6c444a7aafecaf3cb197a80b9ef8a1982e79dd4e79eaa131af7fa585106"), looks := false }, kinds := [], alts := [], laidByText := true, laidKinds := [.data], laidTests := true, laidLooks := .later }
def ClerkScriptCardSaid : Prop := Claim7.holds Tryd.pinned (.plain (OpenSpec.ofChange clerkScriptSpec)) clerkScriptCard

/-- THE SECOND FORM's CARD OF 'weirkeeplaw15.SpanReaders'. -/
def spanReadersUptoCard : Claim7 := { stood := { row := spanReadersUptoRow, standIns := [], harness := (true, "3500e6c444a7aafecaf3cb197a80b9ef8a1982e79dd4e79eaa131af7fa585106"), looks := false }, kinds := [], alts := [], laidByText := true, laidKinds := [.data], laidTests := true, laidLooks := .later }
def SpanReadersUptoCardSaid : Prop := Claim7.holds Tryd.pinned (.plain (OpenSpec.upto spanReadersSpec)) spanReadersUptoCard

/-- THE SECOND FORM's CARD OF 'weirkeeplaw15.SpanParts'. -/
def spanPartsUptoCard : Claim7 := { stood := { row := spanPartsUptoRow, standIns := [], harness := (true, "3500e6c444a7aafecaf3cb197a80b9ef8a1982e79dd4e79eaa131af7fa585106"), looks := false }, kinds := [], alts := [], laidByText := true, laidKinds := [.data], laidTests := true, laidLooks := .later }
def SpanPartsUptoCardSaid : Prop := Claim7.holds Tryd.pinned (.plain (OpenSpec.upto spanPartsSpec)) spanPartsUptoCard

/-- THE SECOND FORM's CARD OF 'weirkeeplaw15.SpanScript'. -/
def spanScriptUptoCard : Claim7 := { stood := { row := spanScriptUptoRow, standIns := [], harness := (true, "3500e6c444a7aafecaf3cb197a80b9ef8a1982e79dd4e79eaa131af7fa585106"), looks := false }, kinds := [], alts := [], laidByText := true, laidKinds := [.data], laidTests := true, laidLooks := .later }
def SpanScriptUptoCardSaid : Prop := Claim7.holds Tryd.pinned (.plain (OpenSpec.upto spanScriptSpec)) spanScriptUptoCard

/-- THE SECOND FORM's CARD OF 'weirkeeplaw15.SpanApart'. -/
def spanApartUptoCard : Claim7 := { stood := { row := spanApartUptoRow, standIns := [], harness := (true, "3500e6c444a7aafecaf3cb197a80b9ef8a1982e79dd4e79eaa131af7fa585106"), looks := false }, kinds := [], alts := [], laidByText := true, laidKinds := [.data], laidTests := true, laidLooks := .later }
def SpanApartUptoCardSaid : Prop := Claim7.holds Tryd.pinned (.plain (OpenSpec.upto spanApartSpec)) spanApartUptoCard

/-- THE SECOND FORM's CARD OF 'weirkeeplaw15.SpanPuts'. -/
def spanPutsUptoCard : Claim7 := { stood := { row := spanPutsUptoRow, standIns := [], harness := (true, "3500e6c444a7aafecaf3cb197a80b9ef8a1982e79dd4e79eaa131af7fa585106"), looks := false }, kinds := [], alts := [], laidByText := true, laidKinds := [.data], laidTests := true, laidLooks := .later }
def SpanPutsUptoCardSaid : Prop := Claim7.holds Tryd.pinned (.plain (OpenSpec.upto spanPutsSpec)) spanPutsUptoCard

/-- THE SECOND FORM's CARD OF 'weirkeeplaw15.SpanDrops'. -/
def spanDropsUptoCard : Claim7 := { stood := { row := spanDropsUptoRow, standIns := [], harness := (true, "3500e6c444a7aafecaf3cb197a80b9ef8a1982e79dd4e79eaa131af7fa585106"), looks := false }, kinds := [], alts := [], laidByText := true, laidKinds := [.data], laidTests := true, laidLooks := .later }
def SpanDropsUptoCardSaid : Prop := Claim7.holds Tryd.pinned (.plain (OpenSpec.upto spanDropsSpec)) spanDropsUptoCard

/-- THE SECOND FORM's CARD OF 'weirkeeplaw20.ClerkLeft'. -/
def clerkLeftUptoCard : Claim7 := { stood := { row := clerkLeftUptoRow, standIns := [], harness := (true, "3500e6c444a7aafecaf3cb197a80b9ef8a1982e79dd4e79eaa131af7fa585106"), looks := false }, kinds := [], alts := [], laidByText := true, laidKinds := [.data], laidTests := true, laidLooks := .later }
def ClerkLeftUptoCardSaid : Prop := Claim7.holds Tryd.pinned (.plain (OpenSpec.upto clerkLeftSpec)) clerkLeftUptoCard

/-- THE SECOND FORM's CARD OF 'weirkeeplaw20.ClerkMay'. -/
def clerkMayUptoCard : Claim7 := { stood := { row := clerkMayUptoRow, standIns := [], harness := (true, "3500e6c444a7aafecaf3cb197a80b9ef8a1982e79dd4e79eaa131af7fa585106"), looks := false }, kinds := [], alts := [], laidByText := true, laidKinds := [.data], laidTests := true, laidLooks := .later }
def ClerkMayUptoCardSaid : Prop := Claim7.holds Tryd.pinned (.plain (OpenSpec.upto clerkMaySpec)) clerkMayUptoCard

/-- THE SECOND FORM's CARD OF 'weirkeeplaw20.ClerkStamps'. -/
def clerkStampsUptoCard : Claim7 := { stood := { row := clerkStampsUptoRow, standIns := [], harness := (true, "3500e6c444a7aafecaf3cb197a80b9ef8a1982e79dd4e79eaa131af7fa585106"), looks := false }, kinds := [], alts := [], laidByText := true, laidKinds := [.data], laidTests := true, laidLooks := .later }
def ClerkStampsUptoCardSaid : Prop := Claim7.holds Tryd.pinned (.plain (OpenSpec.upto clerkStampsSpec)) clerkStampsUptoCard

/-- THE SECOND FORM's CARD OF 'weirkeeplaw20.ClerkGives'. -/
def clerkGivesUptoCard : Claim7 := { stood := { row := clerkGivesUptoRow, standIns := [], harness := (true, "3500e6c444a7aafecaf3cb197a80b9ef8a1982e79dd4e79eaa131af7fa585106"), looks := false }, kinds := [], alts := [], laidByText := true, laidKinds := [.data], laidTests := true, laidLooks := .later }
def ClerkGivesUptoCardSaid : Prop := Claim7.holds Tryd.pinned (.plain (OpenSpec.upto clerkGivesSpec)) clerkGivesUptoCard

/-- THE SECOND FORM's CARD OF 'weirkeeplaw20.ClerkScript'. -/
def clerkScriptUptoCard : Claim7 := { stood := { row := clerkScriptUptoRow, standIns := [], harness := (true, "3500e6c444a7aafecaf3cb197a80b9ef8a1982e79dd4e79eaa131af7fa585106"), looks := false }, kinds := [], alts := [], laidByText := true, laidKinds := [.data], laidTests := true, laidLooks := .later }
def ClerkScriptUptoCardSaid : Prop := Claim7.holds Tryd.pinned (.plain (OpenSpec.upto clerkScriptSpec)) clerkScriptUptoCard
end Rows
end Go.Proofs.YtkajedgghoboaaaDoor
