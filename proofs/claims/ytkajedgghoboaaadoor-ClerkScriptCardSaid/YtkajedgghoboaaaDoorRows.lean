/-
  NARROWER THAN 'FOR EVERY INPUT', by the rows' own cells (each row's printed sentence says how): SpanReaders: laid · SpanParts: laid · SpanScript: laid · SpanApart: laid · SpanPuts: laid · SpanDrops: laid · ClerkLeft: laid · ClerkMay: laid · ClerkStamps: laid · ClerkGives: laid · ClerkScript: laid.
  DERIVED. THE GIVEN ROWS OF THIS SEAT. 11 by the template 'for every input the law returns true; each argument reads behind the call as it read before'; 0 by the template 'total and deterministic' (their statements: YtkajedgghoboaaaDoorTotals.lean).
  GIVEN WITH THE SEED: the statements are not yours to turn. If you find one false, say at which input.
  Laid BY PROGRAM, IN A SANDBOX (cutbox-rows.mjs): the forced cells as the released guide's own fill.sh prints them over the translation 78aceb10eff3f335… (all of the seat's roots in one cut). By AI agents, Wed Nov 11 2026. No macro, syntax, notation, axiom, sorry.
-/
import Derived.Test.YtkajedgghoboaaaDoorChecked
import GoSem.Claim
import GoSem.ClaimJoined
import GoSem.ClaimMapViews
import Derived.JoinedTies
import Derived.KernelRfl
namespace Go.Proofs.YtkajedgghoboaaaDoor
/- THE CELL 'sum', in the pinned program and in every row, IS THE sha256 OF THE DUMP (.gsa) THAT YtkajedgghoboaaaDoorProg.lean LOADS. Nothing in Lean hashes anything: it is a label: what it is worth is what the hold of that sum in a sandbox is worth. -/
noncomputable def Tryd.pinned : Pinned := { name := "ytkajedgghoboaaadoor", sum := "78aceb10eff3f3358b40a4f16a09236dbcaa910b7187b38352d7e360bd514f65", checked := Tryd.checked }
namespace Rows
def none {H : Type} : Left H := { results := [], args := [] }

/- WHAT THE LISTED PACKAGE-LEVEL VARIABLES READ AS WHEN THE CALL BEGINS. Each datum BY PROGRAM (the guide's laid-datum.mjs) off the statement by which the dump's own 'gosem.cut.vars' lays the variable. In a bare row this is a premise. The card (YtkajedgghoboaaaDoorCards.lean) ties it to the program's text. -/
def laid_weirkeep_span_whole {H : Type} : DataW H := .agg [.lit (.int .i64 0), .lit (.int .i64 256)]

/-- 'weirkeeplaw15.SpanReaders': WHATEVER THE INPUT: true; the input reads as it did. -/
def spanReadersSpec : ChangeSpec := { name := "spanReaders", fn := fun _ => fun
  | [d1, d2, d3] => { results := [.lit (.bool true)], args := [d1, d2, d3] }
  | _ => none }
def spanReadersRow : OpenClaim := { program := "ytkajedgghoboaaadoor", sum := "78aceb10eff3f3358b40a4f16a09236dbcaa910b7187b38352d7e360bd514f65", func := "weirkeep/weirkeeplaw15.SpanReaders", spec := "spanReaders", unfollowed := true, recurses := true, named := ["weirkeep/span.whole"], apart := false, laid := [("weirkeep/span.whole", laid_weirkeep_span_whole)] }
def SpanReadersSaid : Prop := spanReadersRow.holds Tryd.pinned (OpenSpec.ofChange spanReadersSpec)

/-- ITS FALSE NEIGHBOUR: 'it returns false'. Refute it at one input. -/
def spanReadersWrong : ChangeSpec := { name := "spanReaders", fn := fun _ => fun
  | [d1, d2, d3] => { results := [.lit (.bool false)], args := [d1, d2, d3] }
  | _ => none }
def SpanReadersWrongFalsely : Prop := spanReadersRow.holds Tryd.pinned (OpenSpec.ofChange spanReadersWrong)

/-- 'weirkeeplaw15.SpanParts': WHATEVER THE INPUT: true; the input reads as it did. -/
def spanPartsSpec : ChangeSpec := { name := "spanParts", fn := fun _ => fun
  | [d1, d2, d3, d4, d5, d6] => { results := [.lit (.bool true)], args := [d1, d2, d3, d4, d5, d6] }
  | _ => none }
def spanPartsRow : OpenClaim := { program := "ytkajedgghoboaaadoor", sum := "78aceb10eff3f3358b40a4f16a09236dbcaa910b7187b38352d7e360bd514f65", func := "weirkeep/weirkeeplaw15.SpanParts", spec := "spanParts", unfollowed := true, recurses := true, named := ["weirkeep/span.whole"], apart := false, laid := [("weirkeep/span.whole", laid_weirkeep_span_whole)] }
def SpanPartsSaid : Prop := spanPartsRow.holds Tryd.pinned (OpenSpec.ofChange spanPartsSpec)

/-- ITS FALSE NEIGHBOUR: 'it returns false'. Refute it at one input. -/
def spanPartsWrong : ChangeSpec := { name := "spanParts", fn := fun _ => fun
  | [d1, d2, d3, d4, d5, d6] => { results := [.lit (.bool false)], args := [d1, d2, d3, d4, d5, d6] }
  | _ => none }
def SpanPartsWrongFalsely : Prop := spanPartsRow.holds Tryd.pinned (OpenSpec.ofChange spanPartsWrong)

/-- 'weirkeeplaw15.SpanScript': WHATEVER THE INPUT: true; the input reads as it did. -/
def spanScriptSpec : ChangeSpec := { name := "spanScript", fn := fun _ => fun
  | [d1, d2, d3, d4] => { results := [.lit (.bool true)], args := [d1, d2, d3, d4] }
  | _ => none }
def spanScriptRow : OpenClaim := { program := "ytkajedgghoboaaadoor", sum := "78aceb10eff3f3358b40a4f16a09236dbcaa910b7187b38352d7e360bd514f65", func := "weirkeep/weirkeeplaw15.SpanScript", spec := "spanScript", unfollowed := true, recurses := true, named := ["weirkeep/span.whole"], apart := false, laid := [("weirkeep/span.whole", laid_weirkeep_span_whole)] }
def SpanScriptSaid : Prop := spanScriptRow.holds Tryd.pinned (OpenSpec.ofChange spanScriptSpec)

/-- ITS FALSE NEIGHBOUR: 'it returns false'. Refute it at one input. -/
def spanScriptWrong : ChangeSpec := { name := "spanScript", fn := fun _ => fun
  | [d1, d2, d3, d4] => { results := [.lit (.bool false)], args := [d1, d2, d3, d4] }
  | _ => none }
def SpanScriptWrongFalsely : Prop := spanScriptRow.holds Tryd.pinned (OpenSpec.ofChange spanScriptWrong)

/-- 'weirkeeplaw15.SpanApart': WHATEVER THE INPUT: true; the input reads as it did. -/
def spanApartSpec : ChangeSpec := { name := "spanApart", fn := fun _ => fun
  | [d] => { results := [.lit (.bool true)], args := [d] }
  | _ => none }
def spanApartRow : OpenClaim := { program := "ytkajedgghoboaaadoor", sum := "78aceb10eff3f3358b40a4f16a09236dbcaa910b7187b38352d7e360bd514f65", func := "weirkeep/weirkeeplaw15.SpanApart", spec := "spanApart", unfollowed := true, recurses := true, named := ["weirkeep/span.whole"], apart := false, laid := [("weirkeep/span.whole", laid_weirkeep_span_whole)] }
def SpanApartSaid : Prop := spanApartRow.holds Tryd.pinned (OpenSpec.ofChange spanApartSpec)

/-- ITS FALSE NEIGHBOUR: 'it returns false'. Refute it at one input. -/
def spanApartWrong : ChangeSpec := { name := "spanApart", fn := fun _ => fun
  | [d] => { results := [.lit (.bool false)], args := [d] }
  | _ => none }
def SpanApartWrongFalsely : Prop := spanApartRow.holds Tryd.pinned (OpenSpec.ofChange spanApartWrong)

/-- 'weirkeeplaw15.SpanPuts': WHATEVER THE INPUT: true; the input reads as it did. -/
def spanPutsSpec : ChangeSpec := { name := "spanPuts", fn := fun _ => fun
  | [d1, d2] => { results := [.lit (.bool true)], args := [d1, d2] }
  | _ => none }
def spanPutsRow : OpenClaim := { program := "ytkajedgghoboaaadoor", sum := "78aceb10eff3f3358b40a4f16a09236dbcaa910b7187b38352d7e360bd514f65", func := "weirkeep/weirkeeplaw15.SpanPuts", spec := "spanPuts", unfollowed := true, recurses := true, named := ["weirkeep/span.whole"], apart := false, laid := [("weirkeep/span.whole", laid_weirkeep_span_whole)] }
def SpanPutsSaid : Prop := spanPutsRow.holds Tryd.pinned (OpenSpec.ofChange spanPutsSpec)

/-- ITS FALSE NEIGHBOUR: 'it returns false'. Refute it at one input. -/
def spanPutsWrong : ChangeSpec := { name := "spanPuts", fn := fun _ => fun
  | [d1, d2] => { results := [.lit (.bool false)], args := [d1, d2] }
  | _ => none }
def SpanPutsWrongFalsely : Prop := spanPutsRow.holds Tryd.pinned (OpenSpec.ofChange spanPutsWrong)

/-- 'weirkeeplaw15.SpanDrops': WHATEVER THE INPUT: true; the input reads as it did. -/
def spanDropsSpec : ChangeSpec := { name := "spanDrops", fn := fun _ => fun
  | [d1, d2] => { results := [.lit (.bool true)], args := [d1, d2] }
  | _ => none }
def spanDropsRow : OpenClaim := { program := "ytkajedgghoboaaadoor", sum := "78aceb10eff3f3358b40a4f16a09236dbcaa910b7187b38352d7e360bd514f65", func := "weirkeep/weirkeeplaw15.SpanDrops", spec := "spanDrops", unfollowed := true, recurses := true, named := ["weirkeep/span.whole"], apart := false, laid := [("weirkeep/span.whole", laid_weirkeep_span_whole)] }
def SpanDropsSaid : Prop := spanDropsRow.holds Tryd.pinned (OpenSpec.ofChange spanDropsSpec)

/-- ITS FALSE NEIGHBOUR: 'it returns false'. Refute it at one input. -/
def spanDropsWrong : ChangeSpec := { name := "spanDrops", fn := fun _ => fun
  | [d1, d2] => { results := [.lit (.bool false)], args := [d1, d2] }
  | _ => none }
def SpanDropsWrongFalsely : Prop := spanDropsRow.holds Tryd.pinned (OpenSpec.ofChange spanDropsWrong)

/-- 'weirkeeplaw20.ClerkLeft': WHATEVER THE INPUT: true; the input reads as it did. -/
def clerkLeftSpec : ChangeSpec := { name := "clerkLeft", fn := fun _ => fun
  | [d1, d2, d3, d4, d5] => { results := [.lit (.bool true)], args := [d1, d2, d3, d4, d5] }
  | _ => none }
def clerkLeftRow : OpenClaim := { program := "ytkajedgghoboaaadoor", sum := "78aceb10eff3f3358b40a4f16a09236dbcaa910b7187b38352d7e360bd514f65", func := "weirkeep/weirkeeplaw20.ClerkLeft", spec := "clerkLeft", unfollowed := true, recurses := true, named := ["weirkeep/span.whole"], apart := false, laid := [("weirkeep/span.whole", laid_weirkeep_span_whole)] }
def ClerkLeftSaid : Prop := clerkLeftRow.holds Tryd.pinned (OpenSpec.ofChange clerkLeftSpec)

/-- ITS FALSE NEIGHBOUR: 'it returns false'. Refute it at one input. -/
def clerkLeftWrong : ChangeSpec := { name := "clerkLeft", fn := fun _ => fun
  | [d1, d2, d3, d4, d5] => { results := [.lit (.bool false)], args := [d1, d2, d3, d4, d5] }
  | _ => none }
def ClerkLeftWrongFalsely : Prop := clerkLeftRow.holds Tryd.pinned (OpenSpec.ofChange clerkLeftWrong)

/-- 'weirkeeplaw20.ClerkMay': WHATEVER THE INPUT: true; the input reads as it did. -/
def clerkMaySpec : ChangeSpec := { name := "clerkMay", fn := fun _ => fun
  | [d1, d2, d3, d4, d5] => { results := [.lit (.bool true)], args := [d1, d2, d3, d4, d5] }
  | _ => none }
def clerkMayRow : OpenClaim := { program := "ytkajedgghoboaaadoor", sum := "78aceb10eff3f3358b40a4f16a09236dbcaa910b7187b38352d7e360bd514f65", func := "weirkeep/weirkeeplaw20.ClerkMay", spec := "clerkMay", unfollowed := true, recurses := true, named := ["weirkeep/span.whole"], apart := false, laid := [("weirkeep/span.whole", laid_weirkeep_span_whole)] }
def ClerkMaySaid : Prop := clerkMayRow.holds Tryd.pinned (OpenSpec.ofChange clerkMaySpec)

/-- ITS FALSE NEIGHBOUR: 'it returns false'. Refute it at one input. -/
def clerkMayWrong : ChangeSpec := { name := "clerkMay", fn := fun _ => fun
  | [d1, d2, d3, d4, d5] => { results := [.lit (.bool false)], args := [d1, d2, d3, d4, d5] }
  | _ => none }
def ClerkMayWrongFalsely : Prop := clerkMayRow.holds Tryd.pinned (OpenSpec.ofChange clerkMayWrong)

/-- 'weirkeeplaw20.ClerkStamps': WHATEVER THE INPUT: true; the input reads as it did. -/
def clerkStampsSpec : ChangeSpec := { name := "clerkStamps", fn := fun _ => fun
  | [d1, d2] => { results := [.lit (.bool true)], args := [d1, d2] }
  | _ => none }
def clerkStampsRow : OpenClaim := { program := "ytkajedgghoboaaadoor", sum := "78aceb10eff3f3358b40a4f16a09236dbcaa910b7187b38352d7e360bd514f65", func := "weirkeep/weirkeeplaw20.ClerkStamps", spec := "clerkStamps", unfollowed := true, recurses := true, named := ["weirkeep/span.whole"], apart := false, laid := [("weirkeep/span.whole", laid_weirkeep_span_whole)] }
def ClerkStampsSaid : Prop := clerkStampsRow.holds Tryd.pinned (OpenSpec.ofChange clerkStampsSpec)

/-- ITS FALSE NEIGHBOUR: 'it returns false'. Refute it at one input. -/
def clerkStampsWrong : ChangeSpec := { name := "clerkStamps", fn := fun _ => fun
  | [d1, d2] => { results := [.lit (.bool false)], args := [d1, d2] }
  | _ => none }
def ClerkStampsWrongFalsely : Prop := clerkStampsRow.holds Tryd.pinned (OpenSpec.ofChange clerkStampsWrong)

/-- 'weirkeeplaw20.ClerkGives': WHATEVER THE INPUT: true; the input reads as it did. -/
def clerkGivesSpec : ChangeSpec := { name := "clerkGives", fn := fun _ => fun
  | [d1, d2, d3, d4] => { results := [.lit (.bool true)], args := [d1, d2, d3, d4] }
  | _ => none }
def clerkGivesRow : OpenClaim := { program := "ytkajedgghoboaaadoor", sum := "78aceb10eff3f3358b40a4f16a09236dbcaa910b7187b38352d7e360bd514f65", func := "weirkeep/weirkeeplaw20.ClerkGives", spec := "clerkGives", unfollowed := true, recurses := true, named := ["weirkeep/span.whole"], apart := false, laid := [("weirkeep/span.whole", laid_weirkeep_span_whole)] }
def ClerkGivesSaid : Prop := clerkGivesRow.holds Tryd.pinned (OpenSpec.ofChange clerkGivesSpec)

/-- ITS FALSE NEIGHBOUR: 'it returns false'. Refute it at one input. -/
def clerkGivesWrong : ChangeSpec := { name := "clerkGives", fn := fun _ => fun
  | [d1, d2, d3, d4] => { results := [.lit (.bool false)], args := [d1, d2, d3, d4] }
  | _ => none }
def ClerkGivesWrongFalsely : Prop := clerkGivesRow.holds Tryd.pinned (OpenSpec.ofChange clerkGivesWrong)

/-- 'weirkeeplaw20.ClerkScript': WHATEVER THE INPUT: true; the input reads as it did. -/
def clerkScriptSpec : ChangeSpec := { name := "clerkScript", fn := fun _ => fun
  | [d1, d2, d3, d4, d5, d6, d7] => { results := [.lit (.bool true)], args := [d1, d2, d3, d4, d5, d6, d7] }
  | _ => none }
def clerkScriptRow : OpenClaim := { program := "ytkajedgghoboaaadoor", sum := "78aceb10eff3f3358b40a4f16a09236dbcaa910b7187b38352d7e360bd514f65", func := "weirkeep/weirkeeplaw20.ClerkScript", spec := "clerkScript", unfollowed := true, recurses := true, named := ["weirkeep/span.whole"], apart := false, laid := [("weirkeep/span.whole", laid_weirkeep_span_whole)] }
def ClerkScriptSaid : Prop := clerkScriptRow.holds Tryd.pinned (OpenSpec.ofChange clerkScriptSpec)

/-- ITS FALSE NEIGHBOUR: 'it returns false'. Refute it at one input. -/
def clerkScriptWrong : ChangeSpec := { name := "clerkScript", fn := fun _ => fun
  | [d1, d2, d3, d4, d5, d6, d7] => { results := [.lit (.bool false)], args := [d1, d2, d3, d4, d5, d6, d7] }
  | _ => none }
def ClerkScriptWrongFalsely : Prop := clerkScriptRow.holds Tryd.pinned (OpenSpec.ofChange clerkScriptWrong)

/- THE SECOND FORM. 'bulk': how many values and letters a reading holds, each counted each time it is reached (what is shared counts as often as it is met; a slice's spare places count too). A statement '..UptoSaid' is the law's where the arguments, and the package variables that the reading takes, are together of bulk at most 1048576: NARROWER than '..Said'. Prove '..Said' where nothing that the law and all that it calls make is longer than what came in: it says more and counts as full. Else prove '..UptoSaid'. A law counts once. -/
mutual
def uptoBulk {H : Type} : DataW H → Nat
  | .lit (.string bytes) => bytes.length + 1
  | .lit _ => 1
  | .nil => 1
  | .ptr d => uptoBulk d + 1
  | .slice elems spare => uptoBulkAll elems + uptoBulkAll spare + 1
  | .agg parts => uptoBulkAll parts + 1
  | .iface _ d => uptoBulk d + 1
  | .map entries => uptoBulkEntries entries + 1
  | .held _ => 1
def uptoBulkAll {H : Type} : List (DataW H) → Nat
  | [] => 0
  | d :: r => uptoBulk d + uptoBulkAll r
def uptoBulkEntries {H : Type} : List (Lit × DataW H) → Nat
  | [] => 0
  | x :: r => uptoBulkEntry x + uptoBulkEntries r
def uptoBulkEntry {H : Type} : Lit × DataW H → Nat
  | (.string bytes, d) => bytes.length + uptoBulk d + 1
  | (_, d) => uptoBulk d + 1
 end
def uptoSmall : (H : Type) → List (DataW H) → Bool := fun _ ds => decide (uptoBulkAll ds ≤ 1048576)
def OpenSpec.upto (s : _root_.Go.ChangeSpec) : _root_.Go.OpenSpec := { _root_.Go.OpenSpec.ofChange s with cond := some uptoSmall }

/-- 'weirkeeplaw15.SpanReaders', WHERE WHAT IT READS IS OF BULK AT MOST 1048576: true; the input reads as it did. -/
def spanReadersUptoRow : OpenClaim := { program := "ytkajedgghoboaaadoor", sum := "78aceb10eff3f3358b40a4f16a09236dbcaa910b7187b38352d7e360bd514f65", func := "weirkeep/weirkeeplaw15.SpanReaders", spec := "spanReaders", unfollowed := true, recurses := true, named := ["weirkeep/span.whole"], apart := false, laid := [("weirkeep/span.whole", laid_weirkeep_span_whole)], narrowed := true }
def SpanReadersUptoSaid : Prop := spanReadersUptoRow.holds Tryd.pinned (OpenSpec.upto spanReadersSpec)

/-- 'weirkeeplaw15.SpanParts', WHERE WHAT IT READS IS OF BULK AT MOST 1048576: true; the input reads as it did. -/
def spanPartsUptoRow : OpenClaim := { program := "ytkajedgghoboaaadoor", sum := "78aceb10eff3f3358b40a4f16a09236dbcaa910b7187b38352d7e360bd514f65", func := "weirkeep/weirkeeplaw15.SpanParts", spec := "spanParts", unfollowed := true, recurses := true, named := ["weirkeep/span.whole"], apart := false, laid := [("weirkeep/span.whole", laid_weirkeep_span_whole)], narrowed := true }
def SpanPartsUptoSaid : Prop := spanPartsUptoRow.holds Tryd.pinned (OpenSpec.upto spanPartsSpec)

/-- 'weirkeeplaw15.SpanScript', WHERE WHAT IT READS IS OF BULK AT MOST 1048576: true; the input reads as it did. -/
def spanScriptUptoRow : OpenClaim := { program := "ytkajedgghoboaaadoor", sum := "78aceb10eff3f3358b40a4f16a09236dbcaa910b7187b38352d7e360bd514f65", func := "weirkeep/weirkeeplaw15.SpanScript", spec := "spanScript", unfollowed := true, recurses := true, named := ["weirkeep/span.whole"], apart := false, laid := [("weirkeep/span.whole", laid_weirkeep_span_whole)], narrowed := true }
def SpanScriptUptoSaid : Prop := spanScriptUptoRow.holds Tryd.pinned (OpenSpec.upto spanScriptSpec)

/-- 'weirkeeplaw15.SpanApart', WHERE WHAT IT READS IS OF BULK AT MOST 1048576: true; the input reads as it did. -/
def spanApartUptoRow : OpenClaim := { program := "ytkajedgghoboaaadoor", sum := "78aceb10eff3f3358b40a4f16a09236dbcaa910b7187b38352d7e360bd514f65", func := "weirkeep/weirkeeplaw15.SpanApart", spec := "spanApart", unfollowed := true, recurses := true, named := ["weirkeep/span.whole"], apart := false, laid := [("weirkeep/span.whole", laid_weirkeep_span_whole)], narrowed := true }
def SpanApartUptoSaid : Prop := spanApartUptoRow.holds Tryd.pinned (OpenSpec.upto spanApartSpec)

/-- 'weirkeeplaw15.SpanPuts', WHERE WHAT IT READS IS OF BULK AT MOST 1048576: true; the input reads as it did. -/
def spanPutsUptoRow : OpenClaim := { program := "ytkajedgghoboaaadoor", sum := "78aceb10eff3f3358b40a4f16a09236dbcaa910b7187b38352d7e360bd514f65", func := "weirkeep/weirkeeplaw15.SpanPuts", spec := "spanPuts", unfollowed := true, recurses := true, named := ["weirkeep/span.whole"], apart := false, laid := [("weirkeep/span.whole", laid_weirkeep_span_whole)], narrowed := true }
def SpanPutsUptoSaid : Prop := spanPutsUptoRow.holds Tryd.pinned (OpenSpec.upto spanPutsSpec)

/-- 'weirkeeplaw15.SpanDrops', WHERE WHAT IT READS IS OF BULK AT MOST 1048576: true; the input reads as it did. -/
def spanDropsUptoRow : OpenClaim := { program := "ytkajedgghoboaaadoor", sum := "78aceb10eff3f3358b40a4f16a09236dbcaa910b7187b38352d7e360bd514f65", func := "weirkeep/weirkeeplaw15.SpanDrops", spec := "spanDrops", unfollowed := true, recurses := true, named := ["weirkeep/span.whole"], apart := false, laid := [("weirkeep/span.whole", laid_weirkeep_span_whole)], narrowed := true }
def SpanDropsUptoSaid : Prop := spanDropsUptoRow.holds Tryd.pinned (OpenSpec.upto spanDropsSpec)

/-- 'weirkeeplaw20.ClerkLeft', WHERE WHAT IT READS IS OF BULK AT MOST 1048576: true; the input reads as it did. -/
def clerkLeftUptoRow : OpenClaim := { program := "ytkajedgghoboaaadoor", sum := "78aceb10eff3f3358b40a4f16a09236dbcaa910b7187b38352d7e360bd514f65", func := "weirkeep/weirkeeplaw20.ClerkLeft", spec := "clerkLeft", unfollowed := true, recurses := true, named := ["weirkeep/span.whole"], apart := false, laid := [("weirkeep/span.whole", laid_weirkeep_span_whole)], narrowed := true }
def ClerkLeftUptoSaid : Prop := clerkLeftUptoRow.holds Tryd.pinned (OpenSpec.upto clerkLeftSpec)

/-- 'weirkeeplaw20.ClerkMay', WHERE WHAT IT READS IS OF BULK AT MOST 1048576: true; the input reads as it did. -/
def clerkMayUptoRow : OpenClaim := { program := "ytkajedgghoboaaadoor", sum := "78aceb10eff3f3358b40a4f16a09236dbcaa910b7187b38352d7e360bd514f65", func := "weirkeep/weirkeeplaw20.ClerkMay", spec := "clerkMay", unfollowed := true, recurses := true, named := ["weirkeep/span.whole"], apart := false, laid := [("weirkeep/span.whole", laid_weirkeep_span_whole)], narrowed := true }
def ClerkMayUptoSaid : Prop := clerkMayUptoRow.holds Tryd.pinned (OpenSpec.upto clerkMaySpec)

/-- 'weirkeeplaw20.ClerkStamps', WHERE WHAT IT READS IS OF BULK AT MOST 1048576: true; the input reads as it did. -/
def clerkStampsUptoRow : OpenClaim := { program := "ytkajedgghoboaaadoor", sum := "78aceb10eff3f3358b40a4f16a09236dbcaa910b7187b38352d7e360bd514f65", func := "weirkeep/weirkeeplaw20.ClerkStamps", spec := "clerkStamps", unfollowed := true, recurses := true, named := ["weirkeep/span.whole"], apart := false, laid := [("weirkeep/span.whole", laid_weirkeep_span_whole)], narrowed := true }
def ClerkStampsUptoSaid : Prop := clerkStampsUptoRow.holds Tryd.pinned (OpenSpec.upto clerkStampsSpec)

/-- 'weirkeeplaw20.ClerkGives', WHERE WHAT IT READS IS OF BULK AT MOST 1048576: true; the input reads as it did. -/
def clerkGivesUptoRow : OpenClaim := { program := "ytkajedgghoboaaadoor", sum := "78aceb10eff3f3358b40a4f16a09236dbcaa910b7187b38352d7e360bd514f65", func := "weirkeep/weirkeeplaw20.ClerkGives", spec := "clerkGives", unfollowed := true, recurses := true, named := ["weirkeep/span.whole"], apart := false, laid := [("weirkeep/span.whole", laid_weirkeep_span_whole)], narrowed := true }
def ClerkGivesUptoSaid : Prop := clerkGivesUptoRow.holds Tryd.pinned (OpenSpec.upto clerkGivesSpec)

/-- 'weirkeeplaw20.ClerkScript', WHERE WHAT IT READS IS OF BULK AT MOST 1048576: true; the input reads as it did. -/
def clerkScriptUptoRow : OpenClaim := { program := "ytkajedgghoboaaadoor", sum := "78aceb10eff3f3358b40a4f16a09236dbcaa910b7187b38352d7e360bd514f65", func := "weirkeep/weirkeeplaw20.ClerkScript", spec := "clerkScript", unfollowed := true, recurses := true, named := ["weirkeep/span.whole"], apart := false, laid := [("weirkeep/span.whole", laid_weirkeep_span_whole)], narrowed := true }
def ClerkScriptUptoSaid : Prop := clerkScriptUptoRow.holds Tryd.pinned (OpenSpec.upto clerkScriptSpec)

end Rows
end Go.Proofs.YtkajedgghoboaaaDoor
