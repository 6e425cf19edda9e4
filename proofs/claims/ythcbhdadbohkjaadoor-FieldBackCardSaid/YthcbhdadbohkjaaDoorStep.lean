/- Steps that came in, as functions of their place; two writers beside one another. No further condition. -/
import Derived.Test.YthcbhdadbohkjaaDoorNw
import Derived.Test.YthcbhdadbohkjaaDoorAlike
namespace Go.Proofs.YthcbhdadbohkjaaDoor
open Go.RowKit
set_option linter.unusedVariables false
set_option linter.unusedSimpArgs false

/-- n steps lie at A: kind, two numbers, a text. -/
structure StepsIn (W : World) (A : Option Addr) (n : Nat) (kk nn cc : Nat → Int) (ss : Nat → ByteArray) : Prop where
  ex : 0 < n → ∃ b off, A = some ⟨b, off, none⟩ ∧ ∀ i, i < n → W.cell? ⟨b, off + i * 4, none⟩ = some (.int .i64 (kk i)) ∧ W.cell? ⟨b, off + i * 4 + 1, none⟩ = some (.int .i64 (nn i)) ∧ W.cell? ⟨b, off + i * 4 + 2, none⟩ = some (.int .i64 (cc i)) ∧ W.cell? ⟨b, off + i * 4 + 3, none⟩ = some (.string (ss i))
  bk : ∀ i, i < n → -9223372036854775808 ≤ kk i ∧ kk i ≤ 9223372036854775807
  bn : ∀ i, i < n → -9223372036854775808 ≤ nn i ∧ nn i ≤ 9223372036854775807
  bc : ∀ i, i < n → -9223372036854775808 ≤ cc i ∧ cc i ≤ 9223372036854775807
  bs : ∀ i, i < n → (ss i).size ≤ 9223372036854775807
theorem steps_inv {W : World} {v : Value} (c : CellOk W (.sl [.int .i64, .int .i64, .int .i64, .str]) v) :
    ∃ A n cap kk nn cc ss, v = .slice A n cap ∧ n ≤ cap ∧ cap ≤ 9223372036854775807 ∧ StepsIn W A n kk nn cc ss := by
  obtain ⟨n, f, hA, hf⟩ := c.slA (by simp)
  obtain ⟨A, cap, rfl, hn, hcap, hcell⟩ := hA.ex
  have key : ∀ i, i < n → (∃ z, f i 0 = .int .i64 z ∧ (Lit.int .i64 z).wf = true) ∧ (∃ z, f i 1 = .int .i64 z ∧ (Lit.int .i64 z).wf = true) ∧ (∃ z, f i 2 = .int .i64 z ∧ (Lit.int .i64 z).wf = true) ∧ (∃ s, f i 3 = .string s ∧ s.size ≤ maxLen) := fun i hi =>
    ⟨(hf i 0 _ hi rfl).int_inv, (hf i 1 _ hi rfl).int_inv, (hf i 2 _ hi rfl).int_inv, (hf i 3 _ hi rfl).str_inv⟩
  refine ⟨A, n, cap, fun i => match f i 0 with | .int _ z => z | _ => 0, fun i => match f i 1 with | .int _ z => z | _ => 0, fun i => match f i 2 with | .int _ z => z | _ => 0, fun i => match f i 3 with | .string s => s | _ => ⟨#[]⟩, rfl, hn, by unfold maxLen at hcap; exact hcap, ?_, ?_, ?_, ?_, ?_⟩
  · intro h0
    obtain ⟨b, off, rfl, hc⟩ := hcell h0
    refine ⟨b, off, rfl, fun i hi => ?_⟩
    obtain ⟨⟨z0, e0, _⟩, ⟨z1, e1, _⟩, ⟨z2, e2, _⟩, ⟨s, e3, _⟩⟩ := key i hi
    have q0 := hc i 0 hi (by simp)
    have q1 := hc i 1 hi (by simp)
    have q2 := hc i 2 hi (by simp)
    have q3 := hc i 3 hi (by simp)
    rw [e0] at q0
    rw [e1] at q1
    rw [e2] at q2
    rw [e3] at q3
    simp only [List.length_cons, List.length_nil, Nat.zero_add, Nat.reduceAdd, Nat.add_zero] at q0 q1 q2 q3
    simp only [e0, e1, e2, e3]
    exact ⟨q0, q1, q2, q3⟩
  · intro i hi
    obtain ⟨⟨z0, e0, w0⟩, _⟩ := key i hi
    simp only [e0]
    exact bd_i64 w0
  · intro i hi
    obtain ⟨_, ⟨z0, e0, w0⟩, _⟩ := key i hi
    simp only [e0]
    exact bd_i64 w0
  · intro i hi
    obtain ⟨_, _, ⟨z0, e0, w0⟩, _⟩ := key i hi
    simp only [e0]
    exact bd_i64 w0
  · intro i hi
    obtain ⟨_, _, _, ⟨s, e0, w0⟩⟩ := key i hi
    simp only [e0]
    unfold maxLen at w0
    exact w0
theorem StepsIn.heavy {W : World} {A : Option Addr} {n : Nat} {kk nn cc : Nat → Int} {ss : Nat → ByteArray} (h : StepsIn W A n kk nn cc ss) (cap : Nat) (hc : cap ≤ 9223372036854775807) (hn : n ≤ cap) :
    Calls Tryd.prog 25 #[.slice A n cap] W fun r w' => HeavyPost n ss r ∧ W = w' :=
  heavy_calls W A n cap hc hn ss h.bs (fun h0 => by
    obtain ⟨b, off, e, hx⟩ := h.ex h0
    exact ⟨b, off, e, fun i hi => (hx i hi).2.2.2⟩)
theorem wgt_le {ss : Nat → ByteArray} {n i : Nat} (h : n + wgt ss n ≤ 8192) (hi : i < n) : (ss i).size ≤ 8192 := by
  have h1 : wgt ss (i + 1) ≤ wgt ss n := wgt_mono ss hi
  have h2 : wgt ss (i + 1) = wgt ss i + min (ss i).size 1048576 := rfl
  omega
/-- Two writers, the program's and the document's, with the same bytes. -/
structure Two (W w : World) (b b2 : Nat) (bs : List UInt8) (F F2 : List Nat) : Prop where
  n : Nw W w
  p : WtrN W w 82 b bs F
  r : WtrN W w 47 b2 bs F2
  d : ∀ x, x ∈ F → x ∉ F2
theorem Two.step0 {W w w' : World} {b b2 : Nat} {bs : List UInt8} {F F2 : List Nat} (h : Two W w b b2 bs F F2) (m : Mod [] w w') : Two W w' b b2 bs F F2 := ⟨h.n.step0 m, h.p.mod0 m, h.r.mod0 m, h.d⟩
/-- Behind a writing call of the program's, for the document's. -/
theorem Two.mid {W w w1 : World} {b b2 : Nat} {bs : List UInt8} {F F2 F1 : List Nat} (h : Two W w b b2 bs F F2) (g : Grow F F1 w w1) : WtrN W w1 47 b2 bs F2 :=
  h.r.mod g.mod (fun x hx hf => h.d x hf hx)
/-- Behind both. -/
theorem Two.both {W w w1 w2 : World} {b b2 : Nat} {bs bs' : List UInt8} {F F2 F1 F3 : List Nat} (h : Two W w b b2 bs F F2) (g1 : Grow F F1 w w1) (h1 : WtrN W w1 82 b bs' F1) (g2 : Grow F2 F3 w1 w2) (h2 : WtrN W w2 47 b2 bs' F3) (n2 : Nw W w2) : Two W w2 b b2 bs' F1 F3 := by
  have d1 : ∀ x, x ∈ F1 → x ∉ F2 := g1.dj h.d h.r.h.lt
  have d2 : ∀ x, x ∈ F3 → x ∉ F1 := g2.dj (fun x hx hf => d1 x hf hx) h1.h.lt
  exact ⟨n2, h1.mod g2.mod d1, h2, fun x hx hf => d2 x hf hx⟩
theorem Two.errs {W w w1 w2 : World} {b b2 : Nat} {bs : List UInt8} {F F2 F1 F3 : List Nat} {v : Value} {l : List Int} {E : List Nat} (h : Two W w b b2 bs F F2) (g1 : Grow F F1 w w1) (g2 : Grow F2 F3 w1 w2) (he : Errs w1 v l E) (hx : ∀ x, x ∈ E → w.heap.size ≤ x ∧ x ∉ F1) : Errs w2 v l E :=
  he.mod g2.mod (fun x hxe hf => by have := (hx x hxe).1; have := h.r.h.lt x hf; omega)
end Go.Proofs.YthcbhdadbohkjaaDoor
