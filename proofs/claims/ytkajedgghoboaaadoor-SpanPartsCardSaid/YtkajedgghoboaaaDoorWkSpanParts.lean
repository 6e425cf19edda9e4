/- The walk of the law SpanParts: what is cut out of the middle of a hold leaves both sides; what is put back makes one of them; the premise: the variable 'whole' holds what its initialiser lays. -/
import Derived.Test.YtkajedgghoboaaaDoorPartsA
import Derived.Test.YtkajedgghoboaaaDoorPartsB
import Derived.Test.YtkajedgghoboaaaDoorPartsC
namespace Go.Proofs.YtkajedgghoboaaaDoor
open Go.RowKit
set_option linter.unusedVariables false
set_option linter.unusedSimpArgs false
attribute [local go_sem ↓] Go.wp_at_zero Go.wp_at_succ

theorem spanParts_walk (W : World) (t0 : Whole W) (a0 : Int) (w0 : (Lit.int .u8 a0).wf = true)
    (a1 : Int) (w1 : (Lit.int .u8 a1).wf = true)
    (a2 : Int) (w2 : (Lit.int .u8 a2).wf = true)
    (a3 : Int) (w3 : (Lit.int .u8 a3).wf = true)
    (a4 : Int) (w4 : (Lit.int .u8 a4).wf = true)
    (a5 : Int) (w5 : (Lit.int .u8 a5).wf = true) :
    Calls Tryd.prog 4 #[.int .u8 a0, .int .u8 a1, .int .u8 a2, .int .u8 a3, .int .u8 a4, .int .u8 a5] W fun e w' => e = .returned (.bool true) ∧ Below W.heap.size W w' := by
  obtain ⟨n0, rfl, g0⟩ := u8_nat w0
  obtain ⟨n1, rfl, g1⟩ := u8_nat w1
  obtain ⟨n2, rfl, g2⟩ := u8_nat w2
  obtain ⟨n3, rfl, g3⟩ := u8_nat w3
  obtain ⟨n4, rfl, g4⟩ := u8_nat w4
  obtain ⟨n5, rfl, g5⟩ := u8_nat w5
  clear w0 w1 w2 w3 w4 w5
  have C0 := Lib.hid (shown_calls W t0)
  have HT := Lib.hid t0
  clear t0
  rcases Nat.lt_trichotomy n0 n1 with hh | hh | hh
  · exact parts_caseA W HT C0 n0 n1 n2 n3 n4 n5 g0 g1 g2 g3 g4 g5 hh
  · exact parts_caseB W HT C0 n0 n1 n2 n3 n4 n5 g0 g1 g2 g3 g4 g5 hh
  · exact parts_caseC W HT C0 n0 n1 n2 n3 n4 n5 g0 g1 g2 g3 g4 g5 hh
end Go.Proofs.YtkajedgghoboaaaDoor
