/-
  NARROWER THAN 'FOR EVERY INPUT', by the rows' own cells (each row's printed sentence says how): GrantDead: laid · GrantLives: laid · GrantScript: laid · GrantApart: laid · GrantServes: laid · GrantReaders: laid · GrantCancels: laid · GrantReplays: laid.
  DERIVED. THE GIVEN ROWS OF THIS SEAT. 8 by the template 'for every input the law returns true; each argument reads behind the call as it read before'; 0 by the template 'total and deterministic' (their statements: YtijjbkkcienfgaaDoorTotals.lean).
  GIVEN WITH THE SEED: the statements are not yours to turn. If you find one false, say at which input.
  Laid BY PROGRAM, IN A SANDBOX (cutbox-rows.mjs): the forced cells as the released guide's own fill.sh prints them over the translation 1d2d3ebfef7256a9… (all of the seat's roots in one cut). By AI agents, Wed Nov 11 2026. No macro, syntax, notation, axiom, sorry.
-/
import Derived.Test.YtijjbkkcienfgaaDoorChecked
import GoSem.Claim
import GoSem.ClaimJoined
import GoSem.ClaimMapViews
import Derived.JoinedTies
import Derived.KernelRfl
namespace Go.Proofs.YtijjbkkcienfgaaDoor
/- THE CELL 'sum', in the pinned program and in every row, IS THE sha256 OF THE DUMP (.gsa) THAT YtijjbkkcienfgaaDoorProg.lean LOADS. Nothing in Lean hashes anything: it is a label: what it is worth is what the hold of that sum in a sandbox is worth. -/
noncomputable def Tryd.pinned : Pinned := { name := "ytijjbkkcienfgaadoor", sum := "1d2d3ebfef7256a9c2b06068bb2ed47032feb38811738cb4f3bd51fae5bbe8a0", checked := Tryd.checked }
namespace Rows
def none {H : Type} : Left H := { results := [], args := [] }

/- WHAT THE LISTED PACKAGE-LEVEL VARIABLES READ AS WHEN THE CALL BEGINS. Each datum BY PROGRAM (the guide's laid-datum.mjs) off the statement by which the dump's own 'gosem.cut.vars' lays the variable. In a bare row this is a premise. The card (YtijjbkkcienfgaaDoorCards.lean) ties it to the program's text. -/
def laid_weirkeep_span_whole {H : Type} : DataW H := .agg [.lit (.int .i64 0), .lit (.int .i64 256)]
def laid_weirkeep_grant_kinds {H : Type} : DataW H := .iface "func table" (.agg [.nil, .iface "func" (.lit (.string [40, 42, 119, 101, 105, 114, 107, 101, 101, 112, 47, 103, 114, 97, 110, 116, 46, 83, 101, 114, 118, 105, 99, 101, 41, 46, 97, 115, 107])), .iface "func" (.lit (.string [40, 42, 119, 101, 105, 114, 107, 101, 101, 112, 47, 103, 114, 97, 110, 116, 46, 83, 101, 114, 118, 105, 99, 101, 41, 46, 114, 101, 108, 101, 97, 115, 101])), .iface "func" (.lit (.string [40, 42, 119, 101, 105, 114, 107, 101, 101, 112, 47, 103, 114, 97, 110, 116, 46, 83, 101, 114, 118, 105, 99, 101, 41, 46, 119, 101, 97, 107, 101, 110])), .iface "func" (.lit (.string [40, 42, 119, 101, 105, 114, 107, 101, 101, 112, 47, 103, 114, 97, 110, 116, 46, 83, 101, 114, 118, 105, 99, 101, 41, 46, 114, 101, 110, 101, 119])), .iface "func" (.lit (.string [40, 42, 119, 101, 105, 114, 107, 101, 101, 112, 47, 103, 114, 97, 110, 116, 46, 83, 101, 114, 118, 105, 99, 101, 41, 46, 115, 119, 101, 101, 112])), .iface "func" (.lit (.string [40, 42, 119, 101, 105, 114, 107, 101, 101, 112, 47, 103, 114, 97, 110, 116, 46, 83, 101, 114, 118, 105, 99, 101, 41, 46, 114, 101, 99, 111, 118, 101, 114])), .iface "func" (.lit (.string [40, 42, 119, 101, 105, 114, 107, 101, 101, 112, 47, 103, 114, 97, 110, 116, 46, 83, 101, 114, 118, 105, 99, 101, 41, 46, 100, 111, 110, 101])), .iface "func" (.lit (.string [40, 42, 119, 101, 105, 114, 107, 101, 101, 112, 47, 103, 114, 97, 110, 116, 46, 83, 101, 114, 118, 105, 99, 101, 41, 46, 99, 97, 110, 99, 101, 108]))])

/-- 'weirkeeplaw17.GrantDead': WHATEVER THE INPUT: true; the input reads as it did. -/
def grantDeadSpec : ChangeSpec := { name := "grantDead", fn := fun _ => fun
  | [d1, d2, d3] => { results := [.lit (.bool true)], args := [d1, d2, d3] }
  | _ => none }
def grantDeadRow : OpenClaim := { program := "ytijjbkkcienfgaadoor", sum := "1d2d3ebfef7256a9c2b06068bb2ed47032feb38811738cb4f3bd51fae5bbe8a0", func := "weirkeep/weirkeeplaw17.GrantDead", spec := "grantDead", unfollowed := true, recurses := true, named := ["weirkeep/grant.kinds", "weirkeep/span.whole"], apart := false, laid := [("weirkeep/span.whole", laid_weirkeep_span_whole), ("weirkeep/grant.kinds", laid_weirkeep_grant_kinds)] }
def GrantDeadSaid : Prop := grantDeadRow.holds Tryd.pinned (OpenSpec.ofChange grantDeadSpec)

/-- ITS FALSE NEIGHBOUR: 'it returns false'. Refute it at one input. -/
def grantDeadWrong : ChangeSpec := { name := "grantDead", fn := fun _ => fun
  | [d1, d2, d3] => { results := [.lit (.bool false)], args := [d1, d2, d3] }
  | _ => none }
def GrantDeadWrongFalsely : Prop := grantDeadRow.holds Tryd.pinned (OpenSpec.ofChange grantDeadWrong)

/-- 'weirkeeplaw17.GrantLives': WHATEVER THE INPUT: true; the input reads as it did. -/
def grantLivesSpec : ChangeSpec := { name := "grantLives", fn := fun _ => fun
  | [d1, d2, d3, d4, d5] => { results := [.lit (.bool true)], args := [d1, d2, d3, d4, d5] }
  | _ => none }
def grantLivesRow : OpenClaim := { program := "ytijjbkkcienfgaadoor", sum := "1d2d3ebfef7256a9c2b06068bb2ed47032feb38811738cb4f3bd51fae5bbe8a0", func := "weirkeep/weirkeeplaw17.GrantLives", spec := "grantLives", unfollowed := true, recurses := true, named := ["weirkeep/grant.kinds", "weirkeep/span.whole"], apart := false, laid := [("weirkeep/span.whole", laid_weirkeep_span_whole), ("weirkeep/grant.kinds", laid_weirkeep_grant_kinds)] }
def GrantLivesSaid : Prop := grantLivesRow.holds Tryd.pinned (OpenSpec.ofChange grantLivesSpec)

/-- ITS FALSE NEIGHBOUR: 'it returns false'. Refute it at one input. -/
def grantLivesWrong : ChangeSpec := { name := "grantLives", fn := fun _ => fun
  | [d1, d2, d3, d4, d5] => { results := [.lit (.bool false)], args := [d1, d2, d3, d4, d5] }
  | _ => none }
def GrantLivesWrongFalsely : Prop := grantLivesRow.holds Tryd.pinned (OpenSpec.ofChange grantLivesWrong)

/-- 'weirkeeplaw17.GrantScript': WHATEVER THE INPUT: true; the input reads as it did. -/
def grantScriptSpec : ChangeSpec := { name := "grantScript", fn := fun _ => fun
  | [d] => { results := [.lit (.bool true)], args := [d] }
  | _ => none }
def grantScriptRow : OpenClaim := { program := "ytijjbkkcienfgaadoor", sum := "1d2d3ebfef7256a9c2b06068bb2ed47032feb38811738cb4f3bd51fae5bbe8a0", func := "weirkeep/weirkeeplaw17.GrantScript", spec := "grantScript", unfollowed := true, recurses := true, named := ["weirkeep/grant.kinds", "weirkeep/span.whole"], apart := false, laid := [("weirkeep/span.whole", laid_weirkeep_span_whole), ("weirkeep/grant.kinds", laid_weirkeep_grant_kinds)] }
def GrantScriptSaid : Prop := grantScriptRow.holds Tryd.pinned (OpenSpec.ofChange grantScriptSpec)

/-- ITS FALSE NEIGHBOUR: 'it returns false'. Refute it at one input. -/
def grantScriptWrong : ChangeSpec := { name := "grantScript", fn := fun _ => fun
  | [d] => { results := [.lit (.bool false)], args := [d] }
  | _ => none }
def GrantScriptWrongFalsely : Prop := grantScriptRow.holds Tryd.pinned (OpenSpec.ofChange grantScriptWrong)

/-- 'weirkeeplaw17.GrantApart': WHATEVER THE INPUT: true; the input reads as it did. -/
def grantApartSpec : ChangeSpec := { name := "grantApart", fn := fun _ => fun
  | [d] => { results := [.lit (.bool true)], args := [d] }
  | _ => none }
def grantApartRow : OpenClaim := { program := "ytijjbkkcienfgaadoor", sum := "1d2d3ebfef7256a9c2b06068bb2ed47032feb38811738cb4f3bd51fae5bbe8a0", func := "weirkeep/weirkeeplaw17.GrantApart", spec := "grantApart", unfollowed := true, recurses := true, named := ["weirkeep/grant.kinds", "weirkeep/span.whole"], apart := false, laid := [("weirkeep/span.whole", laid_weirkeep_span_whole), ("weirkeep/grant.kinds", laid_weirkeep_grant_kinds)] }
def GrantApartSaid : Prop := grantApartRow.holds Tryd.pinned (OpenSpec.ofChange grantApartSpec)

/-- ITS FALSE NEIGHBOUR: 'it returns false'. Refute it at one input. -/
def grantApartWrong : ChangeSpec := { name := "grantApart", fn := fun _ => fun
  | [d] => { results := [.lit (.bool false)], args := [d] }
  | _ => none }
def GrantApartWrongFalsely : Prop := grantApartRow.holds Tryd.pinned (OpenSpec.ofChange grantApartWrong)

/-- 'weirkeeplaw17.GrantServes': WHATEVER THE INPUT: true; the input reads as it did. -/
def grantServesSpec : ChangeSpec := { name := "grantServes", fn := fun _ => fun
  | [d] => { results := [.lit (.bool true)], args := [d] }
  | _ => none }
def grantServesRow : OpenClaim := { program := "ytijjbkkcienfgaadoor", sum := "1d2d3ebfef7256a9c2b06068bb2ed47032feb38811738cb4f3bd51fae5bbe8a0", func := "weirkeep/weirkeeplaw17.GrantServes", spec := "grantServes", unfollowed := true, recurses := true, named := ["weirkeep/grant.kinds", "weirkeep/span.whole"], apart := false, laid := [("weirkeep/span.whole", laid_weirkeep_span_whole), ("weirkeep/grant.kinds", laid_weirkeep_grant_kinds)] }
def GrantServesSaid : Prop := grantServesRow.holds Tryd.pinned (OpenSpec.ofChange grantServesSpec)

/-- ITS FALSE NEIGHBOUR: 'it returns false'. Refute it at one input. -/
def grantServesWrong : ChangeSpec := { name := "grantServes", fn := fun _ => fun
  | [d] => { results := [.lit (.bool false)], args := [d] }
  | _ => none }
def GrantServesWrongFalsely : Prop := grantServesRow.holds Tryd.pinned (OpenSpec.ofChange grantServesWrong)

/-- 'weirkeeplaw17.GrantReaders': WHATEVER THE INPUT: true; the input reads as it did. -/
def grantReadersSpec : ChangeSpec := { name := "grantReaders", fn := fun _ => fun
  | [d1, d2] => { results := [.lit (.bool true)], args := [d1, d2] }
  | _ => none }
def grantReadersRow : OpenClaim := { program := "ytijjbkkcienfgaadoor", sum := "1d2d3ebfef7256a9c2b06068bb2ed47032feb38811738cb4f3bd51fae5bbe8a0", func := "weirkeep/weirkeeplaw17.GrantReaders", spec := "grantReaders", unfollowed := true, recurses := true, named := ["weirkeep/grant.kinds", "weirkeep/span.whole"], apart := false, laid := [("weirkeep/span.whole", laid_weirkeep_span_whole), ("weirkeep/grant.kinds", laid_weirkeep_grant_kinds)] }
def GrantReadersSaid : Prop := grantReadersRow.holds Tryd.pinned (OpenSpec.ofChange grantReadersSpec)

/-- ITS FALSE NEIGHBOUR: 'it returns false'. Refute it at one input. -/
def grantReadersWrong : ChangeSpec := { name := "grantReaders", fn := fun _ => fun
  | [d1, d2] => { results := [.lit (.bool false)], args := [d1, d2] }
  | _ => none }
def GrantReadersWrongFalsely : Prop := grantReadersRow.holds Tryd.pinned (OpenSpec.ofChange grantReadersWrong)

/-- 'weirkeeplaw17.GrantCancels': WHATEVER THE INPUT: true; the input reads as it did. -/
def grantCancelsSpec : ChangeSpec := { name := "grantCancels", fn := fun _ => fun
  | [d1, d2] => { results := [.lit (.bool true)], args := [d1, d2] }
  | _ => none }
def grantCancelsRow : OpenClaim := { program := "ytijjbkkcienfgaadoor", sum := "1d2d3ebfef7256a9c2b06068bb2ed47032feb38811738cb4f3bd51fae5bbe8a0", func := "weirkeep/weirkeeplaw17.GrantCancels", spec := "grantCancels", unfollowed := true, recurses := true, named := ["weirkeep/grant.kinds", "weirkeep/span.whole"], apart := false, laid := [("weirkeep/span.whole", laid_weirkeep_span_whole), ("weirkeep/grant.kinds", laid_weirkeep_grant_kinds)] }
def GrantCancelsSaid : Prop := grantCancelsRow.holds Tryd.pinned (OpenSpec.ofChange grantCancelsSpec)

/-- ITS FALSE NEIGHBOUR: 'it returns false'. Refute it at one input. -/
def grantCancelsWrong : ChangeSpec := { name := "grantCancels", fn := fun _ => fun
  | [d1, d2] => { results := [.lit (.bool false)], args := [d1, d2] }
  | _ => none }
def GrantCancelsWrongFalsely : Prop := grantCancelsRow.holds Tryd.pinned (OpenSpec.ofChange grantCancelsWrong)

/-- 'weirkeeplaw17.GrantReplays': WHATEVER THE INPUT: true; the input reads as it did. -/
def grantReplaysSpec : ChangeSpec := { name := "grantReplays", fn := fun _ => fun
  | [d1, d2] => { results := [.lit (.bool true)], args := [d1, d2] }
  | _ => none }
def grantReplaysRow : OpenClaim := { program := "ytijjbkkcienfgaadoor", sum := "1d2d3ebfef7256a9c2b06068bb2ed47032feb38811738cb4f3bd51fae5bbe8a0", func := "weirkeep/weirkeeplaw17.GrantReplays", spec := "grantReplays", unfollowed := true, recurses := true, named := ["weirkeep/grant.kinds", "weirkeep/span.whole"], apart := false, laid := [("weirkeep/span.whole", laid_weirkeep_span_whole), ("weirkeep/grant.kinds", laid_weirkeep_grant_kinds)] }
def GrantReplaysSaid : Prop := grantReplaysRow.holds Tryd.pinned (OpenSpec.ofChange grantReplaysSpec)

/-- ITS FALSE NEIGHBOUR: 'it returns false'. Refute it at one input. -/
def grantReplaysWrong : ChangeSpec := { name := "grantReplays", fn := fun _ => fun
  | [d1, d2] => { results := [.lit (.bool false)], args := [d1, d2] }
  | _ => none }
def GrantReplaysWrongFalsely : Prop := grantReplaysRow.holds Tryd.pinned (OpenSpec.ofChange grantReplaysWrong)

/- THE SECOND FORM. 'bulk': how many values and letters a reading holds, each counted each time it is reached (what is shared counts as often as it is met; a slice's spare places count too). A statement '..UptoSaid' is the law's where the arguments, and the package variables that the reading takes, are together of bulk at most 1048576: NARROWER than '..Said'. Prove '..Said' where nothing that the law and all that it calls make is longer than what came in: it says more and counts as full. Else prove '..UptoSaid'. A law counts once. -/
mutual
def uptoBulk {H : Type} : DataW H → Nat
  | .lit (.string bytes) => bytes.length + 1
  | .lit _ => 1
  | .nil => 1
  | .ptr d => uptoBulk d + 1
  | .slice elems spare => uptoBulkAll elems + uptoBulkAll spare + 1
  | .agg parts => uptoBulkAll parts + 1
  | .iface _ d => uptoBulk d + 1
  | .map entries => uptoBulkEntries entries + 1
  | .held _ => 1
def uptoBulkAll {H : Type} : List (DataW H) → Nat
  | [] => 0
  | d :: r => uptoBulk d + uptoBulkAll r
def uptoBulkEntries {H : Type} : List (Lit × DataW H) → Nat
  | [] => 0
  | x :: r => uptoBulkEntry x + uptoBulkEntries r
def uptoBulkEntry {H : Type} : Lit × DataW H → Nat
  | (.string bytes, d) => bytes.length + uptoBulk d + 1
  | (_, d) => uptoBulk d + 1
 end
def uptoSmall : (H : Type) → List (DataW H) → Bool := fun _ ds => decide (uptoBulkAll ds ≤ 1048576)
def OpenSpec.upto (s : _root_.Go.ChangeSpec) : _root_.Go.OpenSpec := { _root_.Go.OpenSpec.ofChange s with cond := some uptoSmall }

/-- 'weirkeeplaw17.GrantDead', WHERE WHAT IT READS IS OF BULK AT MOST 1048576: true; the input reads as it did. -/
def grantDeadUptoRow : OpenClaim := { program := "ytijjbkkcienfgaadoor", sum := "1d2d3ebfef7256a9c2b06068bb2ed47032feb38811738cb4f3bd51fae5bbe8a0", func := "weirkeep/weirkeeplaw17.GrantDead", spec := "grantDead", unfollowed := true, recurses := true, named := ["weirkeep/grant.kinds", "weirkeep/span.whole"], apart := false, laid := [("weirkeep/span.whole", laid_weirkeep_span_whole), ("weirkeep/grant.kinds", laid_weirkeep_grant_kinds)], narrowed := true }
def GrantDeadUptoSaid : Prop := grantDeadUptoRow.holds Tryd.pinned (OpenSpec.upto grantDeadSpec)

/-- 'weirkeeplaw17.GrantLives', WHERE WHAT IT READS IS OF BULK AT MOST 1048576: true; the input reads as it did. -/
def grantLivesUptoRow : OpenClaim := { program := "ytijjbkkcienfgaadoor", sum := "1d2d3ebfef7256a9c2b06068bb2ed47032feb38811738cb4f3bd51fae5bbe8a0", func := "weirkeep/weirkeeplaw17.GrantLives", spec := "grantLives", unfollowed := true, recurses := true, named := ["weirkeep/grant.kinds", "weirkeep/span.whole"], apart := false, laid := [("weirkeep/span.whole", laid_weirkeep_span_whole), ("weirkeep/grant.kinds", laid_weirkeep_grant_kinds)], narrowed := true }
def GrantLivesUptoSaid : Prop := grantLivesUptoRow.holds Tryd.pinned (OpenSpec.upto grantLivesSpec)

/-- 'weirkeeplaw17.GrantScript', WHERE WHAT IT READS IS OF BULK AT MOST 1048576: true; the input reads as it did. -/
def grantScriptUptoRow : OpenClaim := { program := "ytijjbkkcienfgaadoor", sum := "1d2d3ebfef7256a9c2b06068bb2ed47032feb38811738cb4f3bd51fae5bbe8a0", func := "weirkeep/weirkeeplaw17.GrantScript", spec := "grantScript", unfollowed := true, recurses := true, named := ["weirkeep/grant.kinds", "weirkeep/span.whole"], apart := false, laid := [("weirkeep/span.whole", laid_weirkeep_span_whole), ("weirkeep/grant.kinds", laid_weirkeep_grant_kinds)], narrowed := true }
def GrantScriptUptoSaid : Prop := grantScriptUptoRow.holds Tryd.pinned (OpenSpec.upto grantScriptSpec)

/-- 'weirkeeplaw17.GrantApart', WHERE WHAT IT READS IS OF BULK AT MOST 1048576: true; the input reads as it did. -/
def grantApartUptoRow : OpenClaim := { program := "ytijjbkkcienfgaadoor", sum := "1d2d3ebfef7256a9c2b06068bb2ed47032feb38811738cb4f3bd51fae5bbe8a0", func := "weirkeep/weirkeeplaw17.GrantApart", spec := "grantApart", unfollowed := true, recurses := true, named := ["weirkeep/grant.kinds", "weirkeep/span.whole"], apart := false, laid := [("weirkeep/span.whole", laid_weirkeep_span_whole), ("weirkeep/grant.kinds", laid_weirkeep_grant_kinds)], narrowed := true }
def GrantApartUptoSaid : Prop := grantApartUptoRow.holds Tryd.pinned (OpenSpec.upto grantApartSpec)

/-- 'weirkeeplaw17.GrantServes', WHERE WHAT IT READS IS OF BULK AT MOST 1048576: true; the input reads as it did. -/
def grantServesUptoRow : OpenClaim := { program := "ytijjbkkcienfgaadoor", sum := "1d2d3ebfef7256a9c2b06068bb2ed47032feb38811738cb4f3bd51fae5bbe8a0", func := "weirkeep/weirkeeplaw17.GrantServes", spec := "grantServes", unfollowed := true, recurses := true, named := ["weirkeep/grant.kinds", "weirkeep/span.whole"], apart := false, laid := [("weirkeep/span.whole", laid_weirkeep_span_whole), ("weirkeep/grant.kinds", laid_weirkeep_grant_kinds)], narrowed := true }
def GrantServesUptoSaid : Prop := grantServesUptoRow.holds Tryd.pinned (OpenSpec.upto grantServesSpec)

/-- 'weirkeeplaw17.GrantReaders', WHERE WHAT IT READS IS OF BULK AT MOST 1048576: true; the input reads as it did. -/
def grantReadersUptoRow : OpenClaim := { program := "ytijjbkkcienfgaadoor", sum := "1d2d3ebfef7256a9c2b06068bb2ed47032feb38811738cb4f3bd51fae5bbe8a0", func := "weirkeep/weirkeeplaw17.GrantReaders", spec := "grantReaders", unfollowed := true, recurses := true, named := ["weirkeep/grant.kinds", "weirkeep/span.whole"], apart := false, laid := [("weirkeep/span.whole", laid_weirkeep_span_whole), ("weirkeep/grant.kinds", laid_weirkeep_grant_kinds)], narrowed := true }
def GrantReadersUptoSaid : Prop := grantReadersUptoRow.holds Tryd.pinned (OpenSpec.upto grantReadersSpec)

/-- 'weirkeeplaw17.GrantCancels', WHERE WHAT IT READS IS OF BULK AT MOST 1048576: true; the input reads as it did. -/
def grantCancelsUptoRow : OpenClaim := { program := "ytijjbkkcienfgaadoor", sum := "1d2d3ebfef7256a9c2b06068bb2ed47032feb38811738cb4f3bd51fae5bbe8a0", func := "weirkeep/weirkeeplaw17.GrantCancels", spec := "grantCancels", unfollowed := true, recurses := true, named := ["weirkeep/grant.kinds", "weirkeep/span.whole"], apart := false, laid := [("weirkeep/span.whole", laid_weirkeep_span_whole), ("weirkeep/grant.kinds", laid_weirkeep_grant_kinds)], narrowed := true }
def GrantCancelsUptoSaid : Prop := grantCancelsUptoRow.holds Tryd.pinned (OpenSpec.upto grantCancelsSpec)

/-- 'weirkeeplaw17.GrantReplays', WHERE WHAT IT READS IS OF BULK AT MOST 1048576: true; the input reads as it did. -/
def grantReplaysUptoRow : OpenClaim := { program := "ytijjbkkcienfgaadoor", sum := "1d2d3ebfef7256a9c2b06068bb2ed47032feb38811738cb4f3bd51fae5bbe8a0", func := "weirkeep/weirkeeplaw17.GrantReplays", spec := "grantReplays", unfollowed := true, recurses := true, named := ["weirkeep/grant.kinds", "weirkeep/span.whole"], apart := false, laid := [("weirkeep/span.whole", laid_weirkeep_span_whole), ("weirkeep/grant.kinds", laid_weirkeep_grant_kinds)], narrowed := true }
def GrantReplaysUptoSaid : Prop := grantReplaysUptoRow.holds Tryd.pinned (OpenSpec.upto grantReplaysSpec)

end Rows
end Go.Proofs.YtijjbkkcienfgaaDoor
