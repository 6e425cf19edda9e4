/-
  No cell of these rows narrows 'for every input' (looked for: loops, veiled, ifaces, maps, wideKeys, modest, calm, conditions, laid).
  DERIVED. THE GIVEN ROWS OF THIS SEAT. 11 by the template 'for every input the law returns true; each argument reads behind the call as it read before'; 0 by the template 'total and deterministic' (their statements: YtdaapkbgfabmaaaTotals.lean).
  GIVEN WITH THE SEED: the statements are not yours to turn. If you find one false, say at which input.
  Laid BY PROGRAM, IN A SANDBOX (cutbox-rows.mjs): the forced cells as the released guide's own fill.sh prints them over the translation 645023b87342b8e8… (all of the seat's roots in one cut). By AI agents, Wed Nov 11 2026. No macro, syntax, notation, axiom, sorry.
-/
import Derived.Test.YtdaapkbgfabmaaaChecked
import GoSem.Claim
import GoSem.ClaimJoined
import GoSem.ClaimMapViews
import Derived.JoinedTies
import Derived.KernelRfl
namespace Go.Proofs.Ytdaapkbgfabmaaa
/- THE CELL 'sum', in the pinned program and in every row, IS THE sha256 OF THE DUMP (.gsa) THAT YtdaapkbgfabmaaaProg.lean LOADS. Nothing in Lean hashes anything: it is a label: what it is worth is what the hold of that sum in a sandbox is worth. -/
noncomputable def Try.pinned : Pinned := { name := "ytdaapkbgfabmaaa", sum := "645023b87342b8e8724942a9bfec7541fd90c4eb1c1e2079605010b098cdc1f2", checked := Try.checked }
namespace Rows
def none {H : Type} : Left H := { results := [], args := [] }

/-- 'weirkeeplaw05.ClockMargins': WHATEVER THE INPUT: true; the input reads as it did. -/
def clockMarginsSpec : ChangeSpec := { name := "clockMargins", fn := fun _ => fun
  | [d1, d2, d3, d4, d5] => { results := [.lit (.bool true)], args := [d1, d2, d3, d4, d5] }
  | _ => none }
def clockMarginsRow : OpenClaim := { program := "ytdaapkbgfabmaaa", sum := "645023b87342b8e8724942a9bfec7541fd90c4eb1c1e2079605010b098cdc1f2", func := "weirkeep/weirkeeplaw05.ClockMargins", spec := "clockMargins", apart := false }
def ClockMarginsSaid : Prop := clockMarginsRow.holds Try.pinned (OpenSpec.ofChange clockMarginsSpec)

/-- ITS FALSE NEIGHBOUR: 'it returns false'. Refute it at one input. -/
def clockMarginsWrong : ChangeSpec := { name := "clockMargins", fn := fun _ => fun
  | [d1, d2, d3, d4, d5] => { results := [.lit (.bool false)], args := [d1, d2, d3, d4, d5] }
  | _ => none }
def ClockMarginsWrongFalsely : Prop := clockMarginsRow.holds Try.pinned (OpenSpec.ofChange clockMarginsWrong)

/-- 'weirkeeplaw05.ClockTicks': WHATEVER THE INPUT: true; the input reads as it did. -/
def clockTicksSpec : ChangeSpec := { name := "clockTicks", fn := fun _ => fun
  | [d1, d2] => { results := [.lit (.bool true)], args := [d1, d2] }
  | _ => none }
def clockTicksRow : OpenClaim := { program := "ytdaapkbgfabmaaa", sum := "645023b87342b8e8724942a9bfec7541fd90c4eb1c1e2079605010b098cdc1f2", func := "weirkeep/weirkeeplaw05.ClockTicks", spec := "clockTicks", apart := false }
def ClockTicksSaid : Prop := clockTicksRow.holds Try.pinned (OpenSpec.ofChange clockTicksSpec)

/-- ITS FALSE NEIGHBOUR: 'it returns false'. Refute it at one input. -/
def clockTicksWrong : ChangeSpec := { name := "clockTicks", fn := fun _ => fun
  | [d1, d2] => { results := [.lit (.bool false)], args := [d1, d2] }
  | _ => none }
def ClockTicksWrongFalsely : Prop := clockTicksRow.holds Try.pinned (OpenSpec.ofChange clockTicksWrong)

/-- 'weirkeeplaw05.ClockFair': WHATEVER THE INPUT: true; the input reads as it did. -/
def clockFairSpec : ChangeSpec := { name := "clockFair", fn := fun _ => fun
  | [d1, d2, d3, d4, d5] => { results := [.lit (.bool true)], args := [d1, d2, d3, d4, d5] }
  | _ => none }
def clockFairRow : OpenClaim := { program := "ytdaapkbgfabmaaa", sum := "645023b87342b8e8724942a9bfec7541fd90c4eb1c1e2079605010b098cdc1f2", func := "weirkeep/weirkeeplaw05.ClockFair", spec := "clockFair", unfollowed := true, recurses := true, apart := false }
def ClockFairSaid : Prop := clockFairRow.holds Try.pinned (OpenSpec.ofChange clockFairSpec)

/-- ITS FALSE NEIGHBOUR: 'it returns false'. Refute it at one input. -/
def clockFairWrong : ChangeSpec := { name := "clockFair", fn := fun _ => fun
  | [d1, d2, d3, d4, d5] => { results := [.lit (.bool false)], args := [d1, d2, d3, d4, d5] }
  | _ => none }
def ClockFairWrongFalsely : Prop := clockFairRow.holds Try.pinned (OpenSpec.ofChange clockFairWrong)

/-- 'weirkeeplaw05.ClockParts': WHATEVER THE INPUT: true; the input reads as it did. -/
def clockPartsSpec : ChangeSpec := { name := "clockParts", fn := fun _ => fun
  | [d1, d2, d3, d4, d5, d6] => { results := [.lit (.bool true)], args := [d1, d2, d3, d4, d5, d6] }
  | _ => none }
def clockPartsRow : OpenClaim := { program := "ytdaapkbgfabmaaa", sum := "645023b87342b8e8724942a9bfec7541fd90c4eb1c1e2079605010b098cdc1f2", func := "weirkeep/weirkeeplaw05.ClockParts", spec := "clockParts", unfollowed := true, recurses := true, apart := false }
def ClockPartsSaid : Prop := clockPartsRow.holds Try.pinned (OpenSpec.ofChange clockPartsSpec)

/-- ITS FALSE NEIGHBOUR: 'it returns false'. Refute it at one input. -/
def clockPartsWrong : ChangeSpec := { name := "clockParts", fn := fun _ => fun
  | [d1, d2, d3, d4, d5, d6] => { results := [.lit (.bool false)], args := [d1, d2, d3, d4, d5, d6] }
  | _ => none }
def ClockPartsWrongFalsely : Prop := clockPartsRow.holds Try.pinned (OpenSpec.ofChange clockPartsWrong)

/-- 'weirkeeplaw05.ClockMargin': WHATEVER THE INPUT: true; the input reads as it did. -/
def clockMarginSpec : ChangeSpec := { name := "clockMargin", fn := fun _ => fun
  | [d1, d2, d3, d4] => { results := [.lit (.bool true)], args := [d1, d2, d3, d4] }
  | _ => none }
def clockMarginRow : OpenClaim := { program := "ytdaapkbgfabmaaa", sum := "645023b87342b8e8724942a9bfec7541fd90c4eb1c1e2079605010b098cdc1f2", func := "weirkeep/weirkeeplaw05.ClockMargin", spec := "clockMargin", unfollowed := true, recurses := true, apart := false }
def ClockMarginSaid : Prop := clockMarginRow.holds Try.pinned (OpenSpec.ofChange clockMarginSpec)

/-- ITS FALSE NEIGHBOUR: 'it returns false'. Refute it at one input. -/
def clockMarginWrong : ChangeSpec := { name := "clockMargin", fn := fun _ => fun
  | [d1, d2, d3, d4] => { results := [.lit (.bool false)], args := [d1, d2, d3, d4] }
  | _ => none }
def ClockMarginWrongFalsely : Prop := clockMarginRow.holds Try.pinned (OpenSpec.ofChange clockMarginWrong)

/-- 'weirkeeplaw05.ClockSame': WHATEVER THE INPUT: true; the input reads as it did. -/
def clockSameSpec : ChangeSpec := { name := "clockSame", fn := fun _ => fun
  | [d1, d2, d3, d4] => { results := [.lit (.bool true)], args := [d1, d2, d3, d4] }
  | _ => none }
def clockSameRow : OpenClaim := { program := "ytdaapkbgfabmaaa", sum := "645023b87342b8e8724942a9bfec7541fd90c4eb1c1e2079605010b098cdc1f2", func := "weirkeep/weirkeeplaw05.ClockSame", spec := "clockSame", unfollowed := true, recurses := true, apart := false }
def ClockSameSaid : Prop := clockSameRow.holds Try.pinned (OpenSpec.ofChange clockSameSpec)

/-- ITS FALSE NEIGHBOUR: 'it returns false'. Refute it at one input. -/
def clockSameWrong : ChangeSpec := { name := "clockSame", fn := fun _ => fun
  | [d1, d2, d3, d4] => { results := [.lit (.bool false)], args := [d1, d2, d3, d4] }
  | _ => none }
def ClockSameWrongFalsely : Prop := clockSameRow.holds Try.pinned (OpenSpec.ofChange clockSameWrong)

/-- 'weirkeeplaw16.LeaseBook': WHATEVER THE INPUT: true; the input reads as it did. -/
def leaseBookSpec : ChangeSpec := { name := "leaseBook", fn := fun _ => fun
  | [d] => { results := [.lit (.bool true)], args := [d] }
  | _ => none }
def leaseBookRow : OpenClaim := { program := "ytdaapkbgfabmaaa", sum := "645023b87342b8e8724942a9bfec7541fd90c4eb1c1e2079605010b098cdc1f2", func := "weirkeep/weirkeeplaw16.LeaseBook", spec := "leaseBook", apart := false }
def LeaseBookSaid : Prop := leaseBookRow.holds Try.pinned (OpenSpec.ofChange leaseBookSpec)

/-- ITS FALSE NEIGHBOUR: 'it returns false'. Refute it at one input. -/
def leaseBookWrong : ChangeSpec := { name := "leaseBook", fn := fun _ => fun
  | [d] => { results := [.lit (.bool false)], args := [d] }
  | _ => none }
def LeaseBookWrongFalsely : Prop := leaseBookRow.holds Try.pinned (OpenSpec.ofChange leaseBookWrong)

/-- 'weirkeeplaw16.LeaseRises': WHATEVER THE INPUT: true; the input reads as it did. -/
def leaseRisesSpec : ChangeSpec := { name := "leaseRises", fn := fun _ => fun
  | [d1, d2] => { results := [.lit (.bool true)], args := [d1, d2] }
  | _ => none }
def leaseRisesRow : OpenClaim := { program := "ytdaapkbgfabmaaa", sum := "645023b87342b8e8724942a9bfec7541fd90c4eb1c1e2079605010b098cdc1f2", func := "weirkeep/weirkeeplaw16.LeaseRises", spec := "leaseRises", apart := false }
def LeaseRisesSaid : Prop := leaseRisesRow.holds Try.pinned (OpenSpec.ofChange leaseRisesSpec)

/-- ITS FALSE NEIGHBOUR: 'it returns false'. Refute it at one input. -/
def leaseRisesWrong : ChangeSpec := { name := "leaseRises", fn := fun _ => fun
  | [d1, d2] => { results := [.lit (.bool false)], args := [d1, d2] }
  | _ => none }
def LeaseRisesWrongFalsely : Prop := leaseRisesRow.holds Try.pinned (OpenSpec.ofChange leaseRisesWrong)

/-- 'weirkeeplaw16.LeaseOwn': WHATEVER THE INPUT: true; the input reads as it did. -/
def leaseOwnSpec : ChangeSpec := { name := "leaseOwn", fn := fun _ => fun
  | [d1, d2, d3] => { results := [.lit (.bool true)], args := [d1, d2, d3] }
  | _ => none }
def leaseOwnRow : OpenClaim := { program := "ytdaapkbgfabmaaa", sum := "645023b87342b8e8724942a9bfec7541fd90c4eb1c1e2079605010b098cdc1f2", func := "weirkeep/weirkeeplaw16.LeaseOwn", spec := "leaseOwn", unfollowed := true, recurses := true, apart := false }
def LeaseOwnSaid : Prop := leaseOwnRow.holds Try.pinned (OpenSpec.ofChange leaseOwnSpec)

/-- ITS FALSE NEIGHBOUR: 'it returns false'. Refute it at one input. -/
def leaseOwnWrong : ChangeSpec := { name := "leaseOwn", fn := fun _ => fun
  | [d1, d2, d3] => { results := [.lit (.bool false)], args := [d1, d2, d3] }
  | _ => none }
def LeaseOwnWrongFalsely : Prop := leaseOwnRow.holds Try.pinned (OpenSpec.ofChange leaseOwnWrong)

/-- 'weirkeeplaw16.LeaseTill': WHATEVER THE INPUT: true; the input reads as it did. -/
def leaseTillSpec : ChangeSpec := { name := "leaseTill", fn := fun _ => fun
  | [d1, d2, d3] => { results := [.lit (.bool true)], args := [d1, d2, d3] }
  | _ => none }
def leaseTillRow : OpenClaim := { program := "ytdaapkbgfabmaaa", sum := "645023b87342b8e8724942a9bfec7541fd90c4eb1c1e2079605010b098cdc1f2", func := "weirkeep/weirkeeplaw16.LeaseTill", spec := "leaseTill", unfollowed := true, recurses := true, apart := false }
def LeaseTillSaid : Prop := leaseTillRow.holds Try.pinned (OpenSpec.ofChange leaseTillSpec)

/-- ITS FALSE NEIGHBOUR: 'it returns false'. Refute it at one input. -/
def leaseTillWrong : ChangeSpec := { name := "leaseTill", fn := fun _ => fun
  | [d1, d2, d3] => { results := [.lit (.bool false)], args := [d1, d2, d3] }
  | _ => none }
def LeaseTillWrongFalsely : Prop := leaseTillRow.holds Try.pinned (OpenSpec.ofChange leaseTillWrong)

/-- 'weirkeeplaw16.LeaseSafe': WHATEVER THE INPUT: true; the input reads as it did. -/
def leaseSafeSpec : ChangeSpec := { name := "leaseSafe", fn := fun _ => fun
  | [d1, d2, d3, d4, d5] => { results := [.lit (.bool true)], args := [d1, d2, d3, d4, d5] }
  | _ => none }
def leaseSafeRow : OpenClaim := { program := "ytdaapkbgfabmaaa", sum := "645023b87342b8e8724942a9bfec7541fd90c4eb1c1e2079605010b098cdc1f2", func := "weirkeep/weirkeeplaw16.LeaseSafe", spec := "leaseSafe", unfollowed := true, recurses := true, apart := false }
def LeaseSafeSaid : Prop := leaseSafeRow.holds Try.pinned (OpenSpec.ofChange leaseSafeSpec)

/-- ITS FALSE NEIGHBOUR: 'it returns false'. Refute it at one input. -/
def leaseSafeWrong : ChangeSpec := { name := "leaseSafe", fn := fun _ => fun
  | [d1, d2, d3, d4, d5] => { results := [.lit (.bool false)], args := [d1, d2, d3, d4, d5] }
  | _ => none }
def LeaseSafeWrongFalsely : Prop := leaseSafeRow.holds Try.pinned (OpenSpec.ofChange leaseSafeWrong)

/- THE SECOND FORM. 'bulk': how many values and letters a reading holds, each counted each time it is reached (what is shared counts as often as it is met; a slice's spare places count too). A statement '..UptoSaid' is the law's where the arguments, and the package variables that the reading takes, are together of bulk at most 1048576: NARROWER than '..Said'. Prove '..Said' where nothing that the law and all that it calls make is longer than what came in: it says more and counts as full. Else prove '..UptoSaid'. A law counts once. -/
mutual
def uptoBulk {H : Type} : DataW H → Nat
  | .lit (.string bytes) => bytes.length + 1
  | .lit _ => 1
  | .nil => 1
  | .ptr d => uptoBulk d + 1
  | .slice elems spare => uptoBulkAll elems + uptoBulkAll spare + 1
  | .agg parts => uptoBulkAll parts + 1
  | .iface _ d => uptoBulk d + 1
  | .map entries => uptoBulkEntries entries + 1
  | .held _ => 1
def uptoBulkAll {H : Type} : List (DataW H) → Nat
  | [] => 0
  | d :: r => uptoBulk d + uptoBulkAll r
def uptoBulkEntries {H : Type} : List (Lit × DataW H) → Nat
  | [] => 0
  | x :: r => uptoBulkEntry x + uptoBulkEntries r
def uptoBulkEntry {H : Type} : Lit × DataW H → Nat
  | (.string bytes, d) => bytes.length + uptoBulk d + 1
  | (_, d) => uptoBulk d + 1
 end
def uptoSmall : (H : Type) → List (DataW H) → Bool := fun _ ds => decide (uptoBulkAll ds ≤ 1048576)
def OpenSpec.upto (s : _root_.Go.ChangeSpec) : _root_.Go.OpenSpec := { _root_.Go.OpenSpec.ofChange s with cond := some uptoSmall }

/-- 'weirkeeplaw05.ClockMargins', WHERE WHAT IT READS IS OF BULK AT MOST 1048576: true; the input reads as it did. -/
def clockMarginsUptoRow : OpenClaim := { program := "ytdaapkbgfabmaaa", sum := "645023b87342b8e8724942a9bfec7541fd90c4eb1c1e2079605010b098cdc1f2", func := "weirkeep/weirkeeplaw05.ClockMargins", spec := "clockMargins", apart := false, narrowed := true }
def ClockMarginsUptoSaid : Prop := clockMarginsUptoRow.holds Try.pinned (OpenSpec.upto clockMarginsSpec)

/-- 'weirkeeplaw05.ClockTicks', WHERE WHAT IT READS IS OF BULK AT MOST 1048576: true; the input reads as it did. -/
def clockTicksUptoRow : OpenClaim := { program := "ytdaapkbgfabmaaa", sum := "645023b87342b8e8724942a9bfec7541fd90c4eb1c1e2079605010b098cdc1f2", func := "weirkeep/weirkeeplaw05.ClockTicks", spec := "clockTicks", apart := false, narrowed := true }
def ClockTicksUptoSaid : Prop := clockTicksUptoRow.holds Try.pinned (OpenSpec.upto clockTicksSpec)

/-- 'weirkeeplaw05.ClockFair', WHERE WHAT IT READS IS OF BULK AT MOST 1048576: true; the input reads as it did. -/
def clockFairUptoRow : OpenClaim := { program := "ytdaapkbgfabmaaa", sum := "645023b87342b8e8724942a9bfec7541fd90c4eb1c1e2079605010b098cdc1f2", func := "weirkeep/weirkeeplaw05.ClockFair", spec := "clockFair", unfollowed := true, recurses := true, apart := false, narrowed := true }
def ClockFairUptoSaid : Prop := clockFairUptoRow.holds Try.pinned (OpenSpec.upto clockFairSpec)

/-- 'weirkeeplaw05.ClockParts', WHERE WHAT IT READS IS OF BULK AT MOST 1048576: true; the input reads as it did. -/
def clockPartsUptoRow : OpenClaim := { program := "ytdaapkbgfabmaaa", sum := "645023b87342b8e8724942a9bfec7541fd90c4eb1c1e2079605010b098cdc1f2", func := "weirkeep/weirkeeplaw05.ClockParts", spec := "clockParts", unfollowed := true, recurses := true, apart := false, narrowed := true }
def ClockPartsUptoSaid : Prop := clockPartsUptoRow.holds Try.pinned (OpenSpec.upto clockPartsSpec)

/-- 'weirkeeplaw05.ClockMargin', WHERE WHAT IT READS IS OF BULK AT MOST 1048576: true; the input reads as it did. -/
def clockMarginUptoRow : OpenClaim := { program := "ytdaapkbgfabmaaa", sum := "645023b87342b8e8724942a9bfec7541fd90c4eb1c1e2079605010b098cdc1f2", func := "weirkeep/weirkeeplaw05.ClockMargin", spec := "clockMargin", unfollowed := true, recurses := true, apart := false, narrowed := true }
def ClockMarginUptoSaid : Prop := clockMarginUptoRow.holds Try.pinned (OpenSpec.upto clockMarginSpec)

/-- 'weirkeeplaw05.ClockSame', WHERE WHAT IT READS IS OF BULK AT MOST 1048576: true; the input reads as it did. -/
def clockSameUptoRow : OpenClaim := { program := "ytdaapkbgfabmaaa", sum := "645023b87342b8e8724942a9bfec7541fd90c4eb1c1e2079605010b098cdc1f2", func := "weirkeep/weirkeeplaw05.ClockSame", spec := "clockSame", unfollowed := true, recurses := true, apart := false, narrowed := true }
def ClockSameUptoSaid : Prop := clockSameUptoRow.holds Try.pinned (OpenSpec.upto clockSameSpec)

/-- 'weirkeeplaw16.LeaseBook', WHERE WHAT IT READS IS OF BULK AT MOST 1048576: true; the input reads as it did. -/
def leaseBookUptoRow : OpenClaim := { program := "ytdaapkbgfabmaaa", sum := "645023b87342b8e8724942a9bfec7541fd90c4eb1c1e2079605010b098cdc1f2", func := "weirkeep/weirkeeplaw16.LeaseBook", spec := "leaseBook", apart := false, narrowed := true }
def LeaseBookUptoSaid : Prop := leaseBookUptoRow.holds Try.pinned (OpenSpec.upto leaseBookSpec)

/-- 'weirkeeplaw16.LeaseRises', WHERE WHAT IT READS IS OF BULK AT MOST 1048576: true; the input reads as it did. -/
def leaseRisesUptoRow : OpenClaim := { program := "ytdaapkbgfabmaaa", sum := "645023b87342b8e8724942a9bfec7541fd90c4eb1c1e2079605010b098cdc1f2", func := "weirkeep/weirkeeplaw16.LeaseRises", spec := "leaseRises", apart := false, narrowed := true }
def LeaseRisesUptoSaid : Prop := leaseRisesUptoRow.holds Try.pinned (OpenSpec.upto leaseRisesSpec)

/-- 'weirkeeplaw16.LeaseOwn', WHERE WHAT IT READS IS OF BULK AT MOST 1048576: true; the input reads as it did. -/
def leaseOwnUptoRow : OpenClaim := { program := "ytdaapkbgfabmaaa", sum := "645023b87342b8e8724942a9bfec7541fd90c4eb1c1e2079605010b098cdc1f2", func := "weirkeep/weirkeeplaw16.LeaseOwn", spec := "leaseOwn", unfollowed := true, recurses := true, apart := false, narrowed := true }
def LeaseOwnUptoSaid : Prop := leaseOwnUptoRow.holds Try.pinned (OpenSpec.upto leaseOwnSpec)

/-- 'weirkeeplaw16.LeaseTill', WHERE WHAT IT READS IS OF BULK AT MOST 1048576: true; the input reads as it did. -/
def leaseTillUptoRow : OpenClaim := { program := "ytdaapkbgfabmaaa", sum := "645023b87342b8e8724942a9bfec7541fd90c4eb1c1e2079605010b098cdc1f2", func := "weirkeep/weirkeeplaw16.LeaseTill", spec := "leaseTill", unfollowed := true, recurses := true, apart := false, narrowed := true }
def LeaseTillUptoSaid : Prop := leaseTillUptoRow.holds Try.pinned (OpenSpec.upto leaseTillSpec)

/-- 'weirkeeplaw16.LeaseSafe', WHERE WHAT IT READS IS OF BULK AT MOST 1048576: true; the input reads as it did. -/
def leaseSafeUptoRow : OpenClaim := { program := "ytdaapkbgfabmaaa", sum := "645023b87342b8e8724942a9bfec7541fd90c4eb1c1e2079605010b098cdc1f2", func := "weirkeep/weirkeeplaw16.LeaseSafe", spec := "leaseSafe", unfollowed := true, recurses := true, apart := false, narrowed := true }
def LeaseSafeUptoSaid : Prop := leaseSafeUptoRow.holds Try.pinned (OpenSpec.upto leaseSafeSpec)

end Rows
end Go.Proofs.Ytdaapkbgfabmaaa
