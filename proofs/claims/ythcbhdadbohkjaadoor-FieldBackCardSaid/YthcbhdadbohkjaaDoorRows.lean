/-
  NARROWER THAN 'FOR EVERY INPUT', by the rows' own cells (each row's printed sentence says how): CheckApart: laid · CheckSums: laid · CheckBack: laid · CheckChanged: laid · CheckTwice: laid · CheckShort: laid · FieldWide: laid · FieldWrites: laid · FieldReads: laid · FieldCut: laid · FieldJoined: laid · FieldBack: laid.
  DERIVED. THE GIVEN ROWS OF THIS SEAT. 12 by the template 'for every input the law returns true; each argument reads behind the call as it read before'; 0 by the template 'total and deterministic' (their statements: YthcbhdadbohkjaaDoorTotals.lean).
  GIVEN WITH THE SEED: the statements are not yours to turn. If you find one false, say at which input.
  Laid BY PROGRAM, IN A SANDBOX (cutbox-rows.mjs): the forced cells as the released guide's own fill.sh prints them over the translation e810ce17e2adda46… (all of the seat's roots in one cut). By AI agents, Wed Nov 11 2026. No macro, syntax, notation, axiom, sorry.
-/
import Derived.Test.YthcbhdadbohkjaaDoorChecked
import GoSem.Claim
import GoSem.ClaimJoined
import GoSem.ClaimMapViews
import Derived.JoinedTies
import Derived.KernelRfl
namespace Go.Proofs.YthcbhdadbohkjaaDoor
/- THE CELL 'sum', in the pinned program and in every row, IS THE sha256 OF THE DUMP (.gsa) THAT YthcbhdadbohkjaaDoorProg.lean LOADS. Nothing in Lean hashes anything: it is a label: what it is worth is what the hold of that sum in a sandbox is worth. -/
noncomputable def Tryd.pinned : Pinned := { name := "ythcbhdadbohkjaadoor", sum := "e810ce17e2adda46ea598fd4f6f3f0d8877e061679c68630e1f77dfdd77b44c5", checked := Tryd.checked }
namespace Rows
def none {H : Type} : Left H := { results := [], args := [] }

/- WHAT THE LISTED PACKAGE-LEVEL VARIABLES READ AS WHEN THE CALL BEGINS. Each datum BY PROGRAM (the guide's laid-datum.mjs) off the statement by which the dump's own 'gosem.cut.vars' lays the variable. In a bare row this is a premise. The card (YthcbhdadbohkjaaDoorCards.lean) ties it to the program's text. -/
def laid_weirkeep_check_steps {H : Type} : DataW H := .agg [.lit (.int .u32 0), .lit (.int .u32 498536548), .lit (.int .u32 997073096), .lit (.int .u32 651767980), .lit (.int .u32 1994146192), .lit (.int .u32 1802195444), .lit (.int .u32 1303535960), .lit (.int .u32 1342533948), .lit (.int .u32 3988292384), .lit (.int .u32 4027552580), .lit (.int .u32 3604390888), .lit (.int .u32 3412177804), .lit (.int .u32 2607071920), .lit (.int .u32 2262029012), .lit (.int .u32 2685067896), .lit (.int .u32 3183342108)]
def laid_errors_errorType {H : Type} : DataW H := .iface "internal/reflectlite.rtype" (.agg [.ptr (.lit (.string [101, 114, 114, 111, 114]))])

/-- 'weirkeeplaw02.CheckApart': WHATEVER THE INPUT: true; the input reads as it did. -/
def checkApartSpec : ChangeSpec := { name := "checkApart", fn := fun _ => fun
  | [d1, d2] => { results := [.lit (.bool true)], args := [d1, d2] }
  | _ => none }
def checkApartRow : OpenClaim := { program := "ythcbhdadbohkjaadoor", sum := "e810ce17e2adda46ea598fd4f6f3f0d8877e061679c68630e1f77dfdd77b44c5", func := "weirkeep/weirkeeplaw02.CheckApart", spec := "checkApart", unfollowed := true, recurses := true, named := ["weirkeep/check.steps"], apart := false, laid := [("weirkeep/check.steps", laid_weirkeep_check_steps)] }
def CheckApartSaid : Prop := checkApartRow.holds Tryd.pinned (OpenSpec.ofChange checkApartSpec)

/-- ITS FALSE NEIGHBOUR: 'it returns false'. Refute it at one input. -/
def checkApartWrong : ChangeSpec := { name := "checkApart", fn := fun _ => fun
  | [d1, d2] => { results := [.lit (.bool false)], args := [d1, d2] }
  | _ => none }
def CheckApartWrongFalsely : Prop := checkApartRow.holds Tryd.pinned (OpenSpec.ofChange checkApartWrong)

/-- 'weirkeeplaw02.CheckSums': WHATEVER THE INPUT: true; the input reads as it did. -/
def checkSumsSpec : ChangeSpec := { name := "checkSums", fn := fun _ => fun
  | [d] => { results := [.lit (.bool true)], args := [d] }
  | _ => none }
def checkSumsRow : OpenClaim := { program := "ythcbhdadbohkjaadoor", sum := "e810ce17e2adda46ea598fd4f6f3f0d8877e061679c68630e1f77dfdd77b44c5", func := "weirkeep/weirkeeplaw02.CheckSums", spec := "checkSums", unfollowed := true, recurses := true, named := ["weirkeep/check.steps"], apart := false, laid := [("weirkeep/check.steps", laid_weirkeep_check_steps)] }
def CheckSumsSaid : Prop := checkSumsRow.holds Tryd.pinned (OpenSpec.ofChange checkSumsSpec)

/-- ITS FALSE NEIGHBOUR: 'it returns false'. Refute it at one input. -/
def checkSumsWrong : ChangeSpec := { name := "checkSums", fn := fun _ => fun
  | [d] => { results := [.lit (.bool false)], args := [d] }
  | _ => none }
def CheckSumsWrongFalsely : Prop := checkSumsRow.holds Tryd.pinned (OpenSpec.ofChange checkSumsWrong)

/-- 'weirkeeplaw02.CheckBack': WHATEVER THE INPUT: true; the input reads as it did. -/
def checkBackSpec : ChangeSpec := { name := "checkBack", fn := fun _ => fun
  | [d1, d2] => { results := [.lit (.bool true)], args := [d1, d2] }
  | _ => none }
def checkBackRow : OpenClaim := { program := "ythcbhdadbohkjaadoor", sum := "e810ce17e2adda46ea598fd4f6f3f0d8877e061679c68630e1f77dfdd77b44c5", func := "weirkeep/weirkeeplaw02.CheckBack", spec := "checkBack", unfollowed := true, recurses := true, named := ["weirkeep/check.steps"], apart := false, laid := [("weirkeep/check.steps", laid_weirkeep_check_steps)] }
def CheckBackSaid : Prop := checkBackRow.holds Tryd.pinned (OpenSpec.ofChange checkBackSpec)

/-- ITS FALSE NEIGHBOUR: 'it returns false'. Refute it at one input. -/
def checkBackWrong : ChangeSpec := { name := "checkBack", fn := fun _ => fun
  | [d1, d2] => { results := [.lit (.bool false)], args := [d1, d2] }
  | _ => none }
def CheckBackWrongFalsely : Prop := checkBackRow.holds Tryd.pinned (OpenSpec.ofChange checkBackWrong)

/-- 'weirkeeplaw02.CheckChanged': WHATEVER THE INPUT: true; the input reads as it did. -/
def checkChangedSpec : ChangeSpec := { name := "checkChanged", fn := fun _ => fun
  | [d1, d2, d3] => { results := [.lit (.bool true)], args := [d1, d2, d3] }
  | _ => none }
def checkChangedRow : OpenClaim := { program := "ythcbhdadbohkjaadoor", sum := "e810ce17e2adda46ea598fd4f6f3f0d8877e061679c68630e1f77dfdd77b44c5", func := "weirkeep/weirkeeplaw02.CheckChanged", spec := "checkChanged", unfollowed := true, recurses := true, named := ["weirkeep/check.steps"], apart := false, laid := [("weirkeep/check.steps", laid_weirkeep_check_steps)] }
def CheckChangedSaid : Prop := checkChangedRow.holds Tryd.pinned (OpenSpec.ofChange checkChangedSpec)

/-- ITS FALSE NEIGHBOUR: 'it returns false'. Refute it at one input. -/
def checkChangedWrong : ChangeSpec := { name := "checkChanged", fn := fun _ => fun
  | [d1, d2, d3] => { results := [.lit (.bool false)], args := [d1, d2, d3] }
  | _ => none }
def CheckChangedWrongFalsely : Prop := checkChangedRow.holds Tryd.pinned (OpenSpec.ofChange checkChangedWrong)

/-- 'weirkeeplaw02.CheckTwice': WHATEVER THE INPUT: true; the input reads as it did. -/
def checkTwiceSpec : ChangeSpec := { name := "checkTwice", fn := fun _ => fun
  | [d] => { results := [.lit (.bool true)], args := [d] }
  | _ => none }
def checkTwiceRow : OpenClaim := { program := "ythcbhdadbohkjaadoor", sum := "e810ce17e2adda46ea598fd4f6f3f0d8877e061679c68630e1f77dfdd77b44c5", func := "weirkeep/weirkeeplaw02.CheckTwice", spec := "checkTwice", unfollowed := true, recurses := true, named := ["weirkeep/check.steps"], apart := false, laid := [("weirkeep/check.steps", laid_weirkeep_check_steps)] }
def CheckTwiceSaid : Prop := checkTwiceRow.holds Tryd.pinned (OpenSpec.ofChange checkTwiceSpec)

/-- ITS FALSE NEIGHBOUR: 'it returns false'. Refute it at one input. -/
def checkTwiceWrong : ChangeSpec := { name := "checkTwice", fn := fun _ => fun
  | [d] => { results := [.lit (.bool false)], args := [d] }
  | _ => none }
def CheckTwiceWrongFalsely : Prop := checkTwiceRow.holds Tryd.pinned (OpenSpec.ofChange checkTwiceWrong)

/-- 'weirkeeplaw02.CheckShort': WHATEVER THE INPUT: true; the input reads as it did. -/
def checkShortSpec : ChangeSpec := { name := "checkShort", fn := fun _ => fun
  | [d] => { results := [.lit (.bool true)], args := [d] }
  | _ => none }
def checkShortRow : OpenClaim := { program := "ythcbhdadbohkjaadoor", sum := "e810ce17e2adda46ea598fd4f6f3f0d8877e061679c68630e1f77dfdd77b44c5", func := "weirkeep/weirkeeplaw02.CheckShort", spec := "checkShort", unfollowed := true, recurses := true, named := ["weirkeep/check.steps"], apart := false, laid := [("weirkeep/check.steps", laid_weirkeep_check_steps)] }
def CheckShortSaid : Prop := checkShortRow.holds Tryd.pinned (OpenSpec.ofChange checkShortSpec)

/-- ITS FALSE NEIGHBOUR: 'it returns false'. Refute it at one input. -/
def checkShortWrong : ChangeSpec := { name := "checkShort", fn := fun _ => fun
  | [d] => { results := [.lit (.bool false)], args := [d] }
  | _ => none }
def CheckShortWrongFalsely : Prop := checkShortRow.holds Tryd.pinned (OpenSpec.ofChange checkShortWrong)

/-- 'weirkeeplaw01.FieldWide': WHATEVER THE INPUT: true; the input reads as it did. -/
def fieldWideSpec : ChangeSpec := { name := "fieldWide", fn := fun _ => fun
  | [d1, d2] => { results := [.lit (.bool true)], args := [d1, d2] }
  | _ => none }
def fieldWideRow : OpenClaim := { program := "ythcbhdadbohkjaadoor", sum := "e810ce17e2adda46ea598fd4f6f3f0d8877e061679c68630e1f77dfdd77b44c5", func := "weirkeep/weirkeeplaw01.FieldWide", spec := "fieldWide", inPlace := ["internal/reflectlite.ValueOf", "(internal/reflectlite.Value).Type", "(internal/reflectlite.Value).IsNil", "internal/reflectlite.TypeOf", "(internal/reflectlite.Value).Elem", "(internal/reflectlite.Value).Set"], unfollowed := true, recurses := true, named := ["errors.errorType"], apart := false, laid := [("errors.errorType", laid_errors_errorType)] }
def FieldWideSaid : Prop := fieldWideRow.holds Tryd.pinned (OpenSpec.ofChange fieldWideSpec)

/-- ITS FALSE NEIGHBOUR: 'it returns false'. Refute it at one input. -/
def fieldWideWrong : ChangeSpec := { name := "fieldWide", fn := fun _ => fun
  | [d1, d2] => { results := [.lit (.bool false)], args := [d1, d2] }
  | _ => none }
def FieldWideWrongFalsely : Prop := fieldWideRow.holds Tryd.pinned (OpenSpec.ofChange fieldWideWrong)

/-- 'weirkeeplaw01.FieldWrites': WHATEVER THE INPUT: true; the input reads as it did. -/
def fieldWritesSpec : ChangeSpec := { name := "fieldWrites", fn := fun _ => fun
  | [d] => { results := [.lit (.bool true)], args := [d] }
  | _ => none }
def fieldWritesRow : OpenClaim := { program := "ythcbhdadbohkjaadoor", sum := "e810ce17e2adda46ea598fd4f6f3f0d8877e061679c68630e1f77dfdd77b44c5", func := "weirkeep/weirkeeplaw01.FieldWrites", spec := "fieldWrites", inPlace := ["internal/reflectlite.ValueOf", "(internal/reflectlite.Value).Type", "(internal/reflectlite.Value).IsNil", "internal/reflectlite.TypeOf", "(internal/reflectlite.Value).Elem", "(internal/reflectlite.Value).Set"], unfollowed := true, recurses := true, named := ["errors.errorType"], apart := false, laid := [("errors.errorType", laid_errors_errorType)] }
def FieldWritesSaid : Prop := fieldWritesRow.holds Tryd.pinned (OpenSpec.ofChange fieldWritesSpec)

/-- ITS FALSE NEIGHBOUR: 'it returns false'. Refute it at one input. -/
def fieldWritesWrong : ChangeSpec := { name := "fieldWrites", fn := fun _ => fun
  | [d] => { results := [.lit (.bool false)], args := [d] }
  | _ => none }
def FieldWritesWrongFalsely : Prop := fieldWritesRow.holds Tryd.pinned (OpenSpec.ofChange fieldWritesWrong)

/-- 'weirkeeplaw01.FieldReads': WHATEVER THE INPUT: true; the input reads as it did. -/
def fieldReadsSpec : ChangeSpec := { name := "fieldReads", fn := fun _ => fun
  | [d1, d2] => { results := [.lit (.bool true)], args := [d1, d2] }
  | _ => none }
def fieldReadsRow : OpenClaim := { program := "ythcbhdadbohkjaadoor", sum := "e810ce17e2adda46ea598fd4f6f3f0d8877e061679c68630e1f77dfdd77b44c5", func := "weirkeep/weirkeeplaw01.FieldReads", spec := "fieldReads", inPlace := ["internal/reflectlite.ValueOf", "(internal/reflectlite.Value).Type", "(internal/reflectlite.Value).IsNil", "internal/reflectlite.TypeOf", "(internal/reflectlite.Value).Elem", "(internal/reflectlite.Value).Set"], unfollowed := true, recurses := true, named := ["errors.errorType"], apart := false, laid := [("errors.errorType", laid_errors_errorType)] }
def FieldReadsSaid : Prop := fieldReadsRow.holds Tryd.pinned (OpenSpec.ofChange fieldReadsSpec)

/-- ITS FALSE NEIGHBOUR: 'it returns false'. Refute it at one input. -/
def fieldReadsWrong : ChangeSpec := { name := "fieldReads", fn := fun _ => fun
  | [d1, d2] => { results := [.lit (.bool false)], args := [d1, d2] }
  | _ => none }
def FieldReadsWrongFalsely : Prop := fieldReadsRow.holds Tryd.pinned (OpenSpec.ofChange fieldReadsWrong)

/-- 'weirkeeplaw01.FieldCut': WHATEVER THE INPUT: true; the input reads as it did. -/
def fieldCutSpec : ChangeSpec := { name := "fieldCut", fn := fun _ => fun
  | [d1, d2, d3] => { results := [.lit (.bool true)], args := [d1, d2, d3] }
  | _ => none }
def fieldCutRow : OpenClaim := { program := "ythcbhdadbohkjaadoor", sum := "e810ce17e2adda46ea598fd4f6f3f0d8877e061679c68630e1f77dfdd77b44c5", func := "weirkeep/weirkeeplaw01.FieldCut", spec := "fieldCut", inPlace := ["internal/reflectlite.ValueOf", "(internal/reflectlite.Value).Type", "(internal/reflectlite.Value).IsNil", "internal/reflectlite.TypeOf", "(internal/reflectlite.Value).Elem", "(internal/reflectlite.Value).Set"], unfollowed := true, recurses := true, named := ["errors.errorType"], apart := false, laid := [("errors.errorType", laid_errors_errorType)] }
def FieldCutSaid : Prop := fieldCutRow.holds Tryd.pinned (OpenSpec.ofChange fieldCutSpec)

/-- ITS FALSE NEIGHBOUR: 'it returns false'. Refute it at one input. -/
def fieldCutWrong : ChangeSpec := { name := "fieldCut", fn := fun _ => fun
  | [d1, d2, d3] => { results := [.lit (.bool false)], args := [d1, d2, d3] }
  | _ => none }
def FieldCutWrongFalsely : Prop := fieldCutRow.holds Tryd.pinned (OpenSpec.ofChange fieldCutWrong)

/-- 'weirkeeplaw01.FieldJoined': WHATEVER THE INPUT: true; the input reads as it did. -/
def fieldJoinedSpec : ChangeSpec := { name := "fieldJoined", fn := fun _ => fun
  | [d1, d2, d3, d4] => { results := [.lit (.bool true)], args := [d1, d2, d3, d4] }
  | _ => none }
def fieldJoinedRow : OpenClaim := { program := "ythcbhdadbohkjaadoor", sum := "e810ce17e2adda46ea598fd4f6f3f0d8877e061679c68630e1f77dfdd77b44c5", func := "weirkeep/weirkeeplaw01.FieldJoined", spec := "fieldJoined", inPlace := ["internal/reflectlite.ValueOf", "(internal/reflectlite.Value).Type", "(internal/reflectlite.Value).IsNil", "internal/reflectlite.TypeOf", "(internal/reflectlite.Value).Elem", "(internal/reflectlite.Value).Set"], unfollowed := true, recurses := true, named := ["errors.errorType"], apart := false, laid := [("errors.errorType", laid_errors_errorType)] }
def FieldJoinedSaid : Prop := fieldJoinedRow.holds Tryd.pinned (OpenSpec.ofChange fieldJoinedSpec)

/-- ITS FALSE NEIGHBOUR: 'it returns false'. Refute it at one input. -/
def fieldJoinedWrong : ChangeSpec := { name := "fieldJoined", fn := fun _ => fun
  | [d1, d2, d3, d4] => { results := [.lit (.bool false)], args := [d1, d2, d3, d4] }
  | _ => none }
def FieldJoinedWrongFalsely : Prop := fieldJoinedRow.holds Tryd.pinned (OpenSpec.ofChange fieldJoinedWrong)

/-- 'weirkeeplaw01.FieldBack': WHATEVER THE INPUT: true; the input reads as it did. -/
def fieldBackSpec : ChangeSpec := { name := "fieldBack", fn := fun _ => fun
  | [d] => { results := [.lit (.bool true)], args := [d] }
  | _ => none }
def fieldBackRow : OpenClaim := { program := "ythcbhdadbohkjaadoor", sum := "e810ce17e2adda46ea598fd4f6f3f0d8877e061679c68630e1f77dfdd77b44c5", func := "weirkeep/weirkeeplaw01.FieldBack", spec := "fieldBack", inPlace := ["internal/reflectlite.ValueOf", "(internal/reflectlite.Value).Type", "(internal/reflectlite.Value).IsNil", "internal/reflectlite.TypeOf", "(internal/reflectlite.Value).Elem", "(internal/reflectlite.Value).Set"], unfollowed := true, recurses := true, named := ["errors.errorType"], apart := false, laid := [("errors.errorType", laid_errors_errorType)] }
def FieldBackSaid : Prop := fieldBackRow.holds Tryd.pinned (OpenSpec.ofChange fieldBackSpec)

/-- ITS FALSE NEIGHBOUR: 'it returns false'. Refute it at one input. -/
def fieldBackWrong : ChangeSpec := { name := "fieldBack", fn := fun _ => fun
  | [d] => { results := [.lit (.bool false)], args := [d] }
  | _ => none }
def FieldBackWrongFalsely : Prop := fieldBackRow.holds Tryd.pinned (OpenSpec.ofChange fieldBackWrong)

/- THE SECOND FORM. 'bulk': how many values and letters a reading holds, each counted each time it is reached (what is shared counts as often as it is met; a slice's spare places count too). A statement '..UptoSaid' is the law's where the arguments, and the package variables that the reading takes, are together of bulk at most 1048576: NARROWER than '..Said'. Prove '..Said' where nothing that the law and all that it calls make is longer than what came in: it says more and counts as full. Else prove '..UptoSaid'. A law counts once. -/
mutual
def uptoBulk {H : Type} : DataW H → Nat
  | .lit (.string bytes) => bytes.length + 1
  | .lit _ => 1
  | .nil => 1
  | .ptr d => uptoBulk d + 1
  | .slice elems spare => uptoBulkAll elems + uptoBulkAll spare + 1
  | .agg parts => uptoBulkAll parts + 1
  | .iface _ d => uptoBulk d + 1
  | .map entries => uptoBulkEntries entries + 1
  | .held _ => 1
def uptoBulkAll {H : Type} : List (DataW H) → Nat
  | [] => 0
  | d :: r => uptoBulk d + uptoBulkAll r
def uptoBulkEntries {H : Type} : List (Lit × DataW H) → Nat
  | [] => 0
  | x :: r => uptoBulkEntry x + uptoBulkEntries r
def uptoBulkEntry {H : Type} : Lit × DataW H → Nat
  | (.string bytes, d) => bytes.length + uptoBulk d + 1
  | (_, d) => uptoBulk d + 1
 end
def uptoSmall : (H : Type) → List (DataW H) → Bool := fun _ ds => decide (uptoBulkAll ds ≤ 1048576)
def OpenSpec.upto (s : _root_.Go.ChangeSpec) : _root_.Go.OpenSpec := { _root_.Go.OpenSpec.ofChange s with cond := some uptoSmall }

/-- 'weirkeeplaw02.CheckApart', WHERE WHAT IT READS IS OF BULK AT MOST 1048576: true; the input reads as it did. -/
def checkApartUptoRow : OpenClaim := { program := "ythcbhdadbohkjaadoor", sum := "e810ce17e2adda46ea598fd4f6f3f0d8877e061679c68630e1f77dfdd77b44c5", func := "weirkeep/weirkeeplaw02.CheckApart", spec := "checkApart", unfollowed := true, recurses := true, named := ["weirkeep/check.steps"], apart := false, laid := [("weirkeep/check.steps", laid_weirkeep_check_steps)], narrowed := true }
def CheckApartUptoSaid : Prop := checkApartUptoRow.holds Tryd.pinned (OpenSpec.upto checkApartSpec)

/-- 'weirkeeplaw02.CheckSums', WHERE WHAT IT READS IS OF BULK AT MOST 1048576: true; the input reads as it did. -/
def checkSumsUptoRow : OpenClaim := { program := "ythcbhdadbohkjaadoor", sum := "e810ce17e2adda46ea598fd4f6f3f0d8877e061679c68630e1f77dfdd77b44c5", func := "weirkeep/weirkeeplaw02.CheckSums", spec := "checkSums", unfollowed := true, recurses := true, named := ["weirkeep/check.steps"], apart := false, laid := [("weirkeep/check.steps", laid_weirkeep_check_steps)], narrowed := true }
def CheckSumsUptoSaid : Prop := checkSumsUptoRow.holds Tryd.pinned (OpenSpec.upto checkSumsSpec)

/-- 'weirkeeplaw02.CheckBack', WHERE WHAT IT READS IS OF BULK AT MOST 1048576: true; the input reads as it did. -/
def checkBackUptoRow : OpenClaim := { program := "ythcbhdadbohkjaadoor", sum := "e810ce17e2adda46ea598fd4f6f3f0d8877e061679c68630e1f77dfdd77b44c5", func := "weirkeep/weirkeeplaw02.CheckBack", spec := "checkBack", unfollowed := true, recurses := true, named := ["weirkeep/check.steps"], apart := false, laid := [("weirkeep/check.steps", laid_weirkeep_check_steps)], narrowed := true }
def CheckBackUptoSaid : Prop := checkBackUptoRow.holds Tryd.pinned (OpenSpec.upto checkBackSpec)

/-- 'weirkeeplaw02.CheckChanged', WHERE WHAT IT READS IS OF BULK AT MOST 1048576: true; the input reads as it did. -/
def checkChangedUptoRow : OpenClaim := { program := "ythcbhdadbohkjaadoor", sum := "e810ce17e2adda46ea598fd4f6f3f0d8877e061679c68630e1f77dfdd77b44c5", func := "weirkeep/weirkeeplaw02.CheckChanged", spec := "checkChanged", unfollowed := true, recurses := true, named := ["weirkeep/check.steps"], apart := false, laid := [("weirkeep/check.steps", laid_weirkeep_check_steps)], narrowed := true }
def CheckChangedUptoSaid : Prop := checkChangedUptoRow.holds Tryd.pinned (OpenSpec.upto checkChangedSpec)

/-- 'weirkeeplaw02.CheckTwice', WHERE WHAT IT READS IS OF BULK AT MOST 1048576: true; the input reads as it did. -/
def checkTwiceUptoRow : OpenClaim := { program := "ythcbhdadbohkjaadoor", sum := "e810ce17e2adda46ea598fd4f6f3f0d8877e061679c68630e1f77dfdd77b44c5", func := "weirkeep/weirkeeplaw02.CheckTwice", spec := "checkTwice", unfollowed := true, recurses := true, named := ["weirkeep/check.steps"], apart := false, laid := [("weirkeep/check.steps", laid_weirkeep_check_steps)], narrowed := true }
def CheckTwiceUptoSaid : Prop := checkTwiceUptoRow.holds Tryd.pinned (OpenSpec.upto checkTwiceSpec)

/-- 'weirkeeplaw02.CheckShort', WHERE WHAT IT READS IS OF BULK AT MOST 1048576: true; the input reads as it did. -/
def checkShortUptoRow : OpenClaim := { program := "ythcbhdadbohkjaadoor", sum := "e810ce17e2adda46ea598fd4f6f3f0d8877e061679c68630e1f77dfdd77b44c5", func := "weirkeep/weirkeeplaw02.CheckShort", spec := "checkShort", unfollowed := true, recurses := true, named := ["weirkeep/check.steps"], apart := false, laid := [("weirkeep/check.steps", laid_weirkeep_check_steps)], narrowed := true }
def CheckShortUptoSaid : Prop := checkShortUptoRow.holds Tryd.pinned (OpenSpec.upto checkShortSpec)

/-- 'weirkeeplaw01.FieldWide', WHERE WHAT IT READS IS OF BULK AT MOST 1048576: true; the input reads as it did. -/
def fieldWideUptoRow : OpenClaim := { program := "ythcbhdadbohkjaadoor", sum := "e810ce17e2adda46ea598fd4f6f3f0d8877e061679c68630e1f77dfdd77b44c5", func := "weirkeep/weirkeeplaw01.FieldWide", spec := "fieldWide", inPlace := ["internal/reflectlite.ValueOf", "(internal/reflectlite.Value).Type", "(internal/reflectlite.Value).IsNil", "internal/reflectlite.TypeOf", "(internal/reflectlite.Value).Elem", "(internal/reflectlite.Value).Set"], unfollowed := true, recurses := true, named := ["errors.errorType"], apart := false, laid := [("errors.errorType", laid_errors_errorType)], narrowed := true }
def FieldWideUptoSaid : Prop := fieldWideUptoRow.holds Tryd.pinned (OpenSpec.upto fieldWideSpec)

/-- 'weirkeeplaw01.FieldWrites', WHERE WHAT IT READS IS OF BULK AT MOST 1048576: true; the input reads as it did. -/
def fieldWritesUptoRow : OpenClaim := { program := "ythcbhdadbohkjaadoor", sum := "e810ce17e2adda46ea598fd4f6f3f0d8877e061679c68630e1f77dfdd77b44c5", func := "weirkeep/weirkeeplaw01.FieldWrites", spec := "fieldWrites", inPlace := ["internal/reflectlite.ValueOf", "(internal/reflectlite.Value).Type", "(internal/reflectlite.Value).IsNil", "internal/reflectlite.TypeOf", "(internal/reflectlite.Value).Elem", "(internal/reflectlite.Value).Set"], unfollowed := true, recurses := true, named := ["errors.errorType"], apart := false, laid := [("errors.errorType", laid_errors_errorType)], narrowed := true }
def FieldWritesUptoSaid : Prop := fieldWritesUptoRow.holds Tryd.pinned (OpenSpec.upto fieldWritesSpec)

/-- 'weirkeeplaw01.FieldReads', WHERE WHAT IT READS IS OF BULK AT MOST 1048576: true; the input reads as it did. -/
def fieldReadsUptoRow : OpenClaim := { program := "ythcbhdadbohkjaadoor", sum := "e810ce17e2adda46ea598fd4f6f3f0d8877e061679c68630e1f77dfdd77b44c5", func := "weirkeep/weirkeeplaw01.FieldReads", spec := "fieldReads", inPlace := ["internal/reflectlite.ValueOf", "(internal/reflectlite.Value).Type", "(internal/reflectlite.Value).IsNil", "internal/reflectlite.TypeOf", "(internal/reflectlite.Value).Elem", "(internal/reflectlite.Value).Set"], unfollowed := true, recurses := true, named := ["errors.errorType"], apart := false, laid := [("errors.errorType", laid_errors_errorType)], narrowed := true }
def FieldReadsUptoSaid : Prop := fieldReadsUptoRow.holds Tryd.pinned (OpenSpec.upto fieldReadsSpec)

/-- 'weirkeeplaw01.FieldCut', WHERE WHAT IT READS IS OF BULK AT MOST 1048576: true; the input reads as it did. -/
def fieldCutUptoRow : OpenClaim := { program := "ythcbhdadbohkjaadoor", sum := "e810ce17e2adda46ea598fd4f6f3f0d8877e061679c68630e1f77dfdd77b44c5", func := "weirkeep/weirkeeplaw01.FieldCut", spec := "fieldCut", inPlace := ["internal/reflectlite.ValueOf", "(internal/reflectlite.Value).Type", "(internal/reflectlite.Value).IsNil", "internal/reflectlite.TypeOf", "(internal/reflectlite.Value).Elem", "(internal/reflectlite.Value).Set"], unfollowed := true, recurses := true, named := ["errors.errorType"], apart := false, laid := [("errors.errorType", laid_errors_errorType)], narrowed := true }
def FieldCutUptoSaid : Prop := fieldCutUptoRow.holds Tryd.pinned (OpenSpec.upto fieldCutSpec)

/-- 'weirkeeplaw01.FieldJoined', WHERE WHAT IT READS IS OF BULK AT MOST 1048576: true; the input reads as it did. -/
def fieldJoinedUptoRow : OpenClaim := { program := "ythcbhdadbohkjaadoor", sum := "e810ce17e2adda46ea598fd4f6f3f0d8877e061679c68630e1f77dfdd77b44c5", func := "weirkeep/weirkeeplaw01.FieldJoined", spec := "fieldJoined", inPlace := ["internal/reflectlite.ValueOf", "(internal/reflectlite.Value).Type", "(internal/reflectlite.Value).IsNil", "internal/reflectlite.TypeOf", "(internal/reflectlite.Value).Elem", "(internal/reflectlite.Value).Set"], unfollowed := true, recurses := true, named := ["errors.errorType"], apart := false, laid := [("errors.errorType", laid_errors_errorType)], narrowed := true }
def FieldJoinedUptoSaid : Prop := fieldJoinedUptoRow.holds Tryd.pinned (OpenSpec.upto fieldJoinedSpec)

/-- 'weirkeeplaw01.FieldBack', WHERE WHAT IT READS IS OF BULK AT MOST 1048576: true; the input reads as it did. -/
def fieldBackUptoRow : OpenClaim := { program := "ythcbhdadbohkjaadoor", sum := "e810ce17e2adda46ea598fd4f6f3f0d8877e061679c68630e1f77dfdd77b44c5", func := "weirkeep/weirkeeplaw01.FieldBack", spec := "fieldBack", inPlace := ["internal/reflectlite.ValueOf", "(internal/reflectlite.Value).Type", "(internal/reflectlite.Value).IsNil", "internal/reflectlite.TypeOf", "(internal/reflectlite.Value).Elem", "(internal/reflectlite.Value).Set"], unfollowed := true, recurses := true, named := ["errors.errorType"], apart := false, laid := [("errors.errorType", laid_errors_errorType)], narrowed := true }
def FieldBackUptoSaid : Prop := fieldBackUptoRow.holds Tryd.pinned (OpenSpec.upto fieldBackSpec)

end Rows
end Go.Proofs.YthcbhdadbohkjaaDoor
