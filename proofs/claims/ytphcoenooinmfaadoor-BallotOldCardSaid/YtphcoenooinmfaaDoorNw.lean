/- Worlds that a law's own calls have come to: all that was there is as it was, and the library's variable of the type error is as laid. No further condition. -/
import Derived.Test.YtphcoenooinmfaaDoorRWtr2
import Derived.Test.YtphcoenooinmfaaDoorRow
namespace Go.Proofs.YtphcoenooinmfaaDoor
open Go.RowKit
set_option linter.unusedVariables false
set_option linter.unusedSimpArgs false

structure Nw (W w : World) : Prop where
  mod : Mod [] W w
  t0 : ErrT W
theorem Nw.refl {W : World} (h : ErrT W) : Nw W W := ⟨Mod.refl _ _, h⟩
theorem Nw.t {W w : World} (h : Nw W w) : ErrT w := h.t0.mod h.mod (by simp)
theorem Nw.step {W w w' : World} {S : List Nat} (h : Nw W w) (m : Mod S w w') (hs : ∀ x, x ∈ S → W.heap.size ≤ x) : Nw W w' := ⟨h.mod.fresh m (fun x hx => .inr (hs x hx)), h.t0⟩
theorem Nw.step0 {W w w' : World} (h : Nw W w) (m : Mod [] w w') : Nw W w' := h.step m (by simp)
theorem Nw.bel {W w : World} (h : Nw W w) : Below W.heap.size W w := h.mod.below (Nat.le_refl _) (by simp)
theorem Nw.le {W w : World} (h : Nw W w) : W.heap.size ≤ w.heap.size := h.mod.size
/-- A writer of the law's own. -/
structure WtrN (W w : World) (T b : Nat) (bs : List UInt8) (F : List Nat) : Prop where
  h : Wtr w T b bs F
  lo : ∀ x, x ∈ F → W.heap.size ≤ x
theorem WtrN.mod {S : List Nat} {W w w' : World} {T b : Nat} {bs : List UInt8} {F : List Nat} (h : WtrN W w T b bs F) (m : Mod S w w') (hd : ∀ x, x ∈ F → x ∉ S) : WtrN W w' T b bs F := ⟨h.h.mod m hd, h.lo⟩
theorem WtrN.mod0 {W w w' : World} {T b : Nat} {bs : List UInt8} {F : List Nat} (h : WtrN W w T b bs F) (m : Mod [] w w') : WtrN W w' T b bs F := ⟨h.h.mod0 m, h.lo⟩
theorem newWriterN {W w : World} (hN : Nw W w) :
    Calls Tryd.prog 47 #[] w fun r w' => ∃ b, r = .returned (.pointer (some ⟨b, 0, none⟩)) ∧ b = w.heap.size ∧ WtrN W w' 144 b [] [b] ∧ Mod [] w w' ∧ Nw W w' :=
  (newWriter_calls w).mono fun r w' ⟨h1, h2, m⟩ => ⟨_, h1, rfl, ⟨h2, fun x hx => by simp at hx; have := hN.le; omega⟩, m, hN.step0 m⟩
/-- What a writing call leaves, in a law's worlds. -/
def WrN (W w : World) (T b : Nat) (F : List Nat) (l : List Int) (bs' : List UInt8) (r : Ending) (w' : World) : Prop :=
  ∃ v E F', r = .returned v ∧ Errs w' v l E ∧ (∀ x, x ∈ E → w.heap.size ≤ x ∧ x ∉ F') ∧ WtrN W w' T b bs' F' ∧ Grow F F' w w' ∧ Nw W w'
theorem WrN.of {W w w' : World} {T b : Nat} {bs : List UInt8} {F : List Nat} {l : List Int} {bs' : List UInt8} {r : Ending} (hN : Nw W w) (hW : WtrN W w T b bs F) (h : WrPost w T b F l bs' r w') : WrN W w T b F l bs' r w' := by
  obtain ⟨v, E, F', h1, h2, h3, h4, h5⟩ := h
  exact ⟨v, E, F', h1, h2, h3, ⟨h4, h5.lo hN.le hW.lo⟩, h5, hN.step h5.mod hW.lo⟩
theorem wnumN {W w : World} {b : Nat} {bs : List UInt8} {F : List Nat} (n k : Int) (hN : Nw W w) (hW : WtrN W w 144 b bs F) (n0 : -9223372036854775808 ≤ n) (n1 : n ≤ 9223372036854775807) (k0 : -9223372036854775808 ≤ k) (k1 : k ≤ 9223372036854775807) (hl : bs.length ≤ 400000) :
    Calls Tryd.prog 49 #[.pointer (some ⟨b, 0, none⟩), .int .i64 n, .int .i64 k] w (WrN W w 144 b F (numL n k) (numB bs n k)) :=
  (wnum_calls w b bs F n k hW.h n0 n1 k0 k1 hl).mono fun r w' h => WrN.of hN hW h
theorem wtextN {W w : World} {b : Nat} {bs : List UInt8} {F : List Nat} (s : ByteArray) (hN : Nw W w) (hW : WtrN W w 144 b bs F) (hs : s.size ≤ 140737488351232) (hl : bs.length ≤ 400000) :
    Calls Tryd.prog 50 #[.pointer (some ⟨b, 0, none⟩), .string s] w (WrN W w 144 b F (textL s) (textB bs s)) :=
  (wtext_calls w b bs F s hW.h hs hl).mono fun r w' h => WrN.of hN hW h
theorem codeN {W w : World} {v : Value} {l : List Int} {E : List Nat} (hN : Nw W w) (hE : Errs w v l E) (hl : l.length ≤ 1000) :
    Calls Tryd.prog 32 #[v] w fun r w' => r = .returned (.int .i64 (l.headD 0)) ∧ Mod [] w w' ∧ Nw W w' :=
  (code_calls w v l E hE hN.t hl).mono fun r w' ⟨h, m⟩ => ⟨h, m, hN.step0 m⟩
/-- What a writing call of the document's leaves, in a law's worlds. -/
def RWrN (W w : World) (T b : Nat) (F : List Nat) (l : List Int) (bs' : List UInt8) (r : Ending) (w' : World) : Prop :=
  ∃ v E F', r = .returned v ∧ RF w' v l E ∧ (∀ x, x ∈ E → w.heap.size ≤ x ∧ x ∉ F') ∧ WtrN W w' T b bs' F' ∧ Grow F F' w w' ∧ Nw W w'
theorem RWrN.of {W w w' : World} {T b : Nat} {bs : List UInt8} {F : List Nat} {l : List Int} {bs' : List UInt8} {r : Ending} (hN : Nw W w) (hW : WtrN W w T b bs F) (h : RWrPost w T b F l bs' r w') : RWrN W w T b F l bs' r w' := by
  obtain ⟨v, E, F', h1, h2, h3, h4, h5⟩ := h
  exact ⟨v, E, F', h1, h2, h3, ⟨h4, h5.lo hN.le hW.lo⟩, h5, hN.step h5.mod hW.lo⟩
theorem rwnumN {W w : World} {b : Nat} {bs : List UInt8} {F : List Nat} (n k : Int) (hN : Nw W w) (hW : WtrN W w 110 b bs F) (n0 : -9223372036854775808 ≤ n) (n1 : n ≤ 9223372036854775807) (k0 : -9223372036854775808 ≤ k) (k1 : k ≤ 9223372036854775807) (hl : bs.length ≤ 300000) :
    Calls Tryd.prog 54 #[.pointer (some ⟨b, 0, none⟩), .int .i64 n, .int .i64 k] w (RWrN W w 110 b F (numL n k) (numB bs n k)) :=
  (rwnum_calls w b bs F n k hW.h n0 n1 k0 k1 (by omega)).mono fun r w' h => RWrN.of hN hW h
theorem rwtextN {W w : World} {b : Nat} {bs : List UInt8} {F : List Nat} (s : ByteArray) (hN : Nw W w) (hW : WtrN W w 110 b bs F) (hs : s.size ≤ 140737488351232) (hl : bs.length ≤ 300000) :
    Calls Tryd.prog 55 #[.pointer (some ⟨b, 0, none⟩), .string s] w (RWrN W w 110 b F (textL s) (textB bs s)) :=
  (rwtext_calls w b bs F s hW.h hs hl).mono fun r w' h => RWrN.of hN hW h
theorem fit13 : numL 1 3 = [1] := by decide
theorem numB13 (bs : List UInt8) : numB bs 1 3 = bs := by simp [numB, fitB, wideB]
theorem numL_len (n k : Int) : (numL n k).length ≤ 1000 := by unfold numL; split <;> simp
theorem textL_len (s : ByteArray) : (textL s).length ≤ 1000 := by unfold textL; split <;> simp
end Go.Proofs.YtphcoenooinmfaaDoor
