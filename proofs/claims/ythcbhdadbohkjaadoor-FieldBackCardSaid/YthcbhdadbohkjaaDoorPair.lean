/- Two writers and a reader in a law's worlds. No further condition. -/
import Derived.Test.YthcbhdadbohkjaaDoorNr
namespace Go.Proofs.YthcbhdadbohkjaaDoor
open Go.RowKit
set_option linter.unusedVariables false
set_option linter.unusedSimpArgs false

/-- Two writers, apart. -/
structure PairW (W w : World) (b1 : Nat) (bs1 : List UInt8) (F1 : List Nat) (T2 b2 : Nat) (bs2 : List UInt8) (F2 : List Nat) : Prop where
  n : Nw W w
  p : WtrN W w 82 b1 bs1 F1
  q : WtrN W w T2 b2 bs2 F2
  d : ∀ x, x ∈ F1 → x ∉ F2
theorem PairW.step0 {W w w' : World} {b1 : Nat} {bs1 : List UInt8} {F1 : List Nat} {T2 b2 : Nat} {bs2 : List UInt8} {F2 : List Nat} (h : PairW W w b1 bs1 F1 T2 b2 bs2 F2) (m : Mod [] w w') : PairW W w' b1 bs1 F1 T2 b2 bs2 F2 :=
  ⟨h.n.step0 m, h.p.mod0 m, h.q.mod0 m, h.d⟩
theorem PairW.left {W w w' : World} {b1 : Nat} {bs1 bs1' : List UInt8} {F1 F1' : List Nat} {T2 b2 : Nat} {bs2 : List UInt8} {F2 : List Nat} (h : PairW W w b1 bs1 F1 T2 b2 bs2 F2) (g : Grow F1 F1' w w') (p : WtrN W w' 82 b1 bs1' F1') (n : Nw W w') : PairW W w' b1 bs1' F1' T2 b2 bs2 F2 :=
  ⟨n, p, h.q.mod g.mod (fun x hx hf => h.d x hf hx), g.dj h.d h.q.h.lt⟩
theorem PairW.right {W w w' : World} {b1 : Nat} {bs1 : List UInt8} {F1 : List Nat} {T2 b2 : Nat} {bs2 bs2' : List UInt8} {F2 F2' : List Nat} (h : PairW W w b1 bs1 F1 T2 b2 bs2 F2) (g : Grow F2 F2' w w') (q : WtrN W w' T2 b2 bs2' F2') (n : Nw W w') : PairW W w' b1 bs1 F1 T2 b2 bs2' F2' :=
  ⟨n, h.p.mod g.mod (fun x hx hf => h.d x hx hf), q, fun x hx hf => g.dj (fun y hy hy' => h.d y hy' hy) h.p.h.lt x hf hx⟩
/-- What a writing call on the first leaves. -/
def LeftP (W : World) (b1 : Nat) (bs1 : List UInt8) (T2 b2 : Nat) (bs2 : List UInt8) (F2 : List Nat) (l : List Int) (r : Ending) (w' : World) : Prop :=
  ∃ v E F1, r = .returned v ∧ Errs w' v l E ∧ PairW W w' b1 bs1 F1 T2 b2 bs2 F2
def RightP (W : World) (b1 : Nat) (bs1 : List UInt8) (F1 : List Nat) (T2 b2 : Nat) (bs2 : List UInt8) (l : List Int) (r : Ending) (w' : World) : Prop :=
  ∃ v E F2, r = .returned v ∧ Errs w' v l E ∧ PairW W w' b1 bs1 F1 T2 b2 bs2 F2
theorem wnumL {W w : World} {b1 : Nat} {bs1 : List UInt8} {F1 : List Nat} {T2 b2 : Nat} {bs2 : List UInt8} {F2 : List Nat} (n k : Int) (h : PairW W w b1 bs1 F1 T2 b2 bs2 F2) (n0 : -9223372036854775808 ≤ n) (n1 : n ≤ 9223372036854775807) (k0 : -9223372036854775808 ≤ k) (k1 : k ≤ 9223372036854775807) (hl : bs1.length ≤ 400000) :
    Calls Tryd.prog 23 #[.pointer (some ⟨b1, 0, none⟩), .int .i64 n, .int .i64 k] w (LeftP W b1 (numB bs1 n k) T2 b2 bs2 F2 (numL n k)) :=
  (wnumN n k h.n h.p n0 n1 k0 k1 hl).mono fun r w' ⟨v, E, F', h1, h2, _, h4, h5, h6⟩ => ⟨v, E, F', h1, h2, h.left h5 h4 h6⟩
theorem wtextL {W w : World} {b1 : Nat} {bs1 : List UInt8} {F1 : List Nat} {T2 b2 : Nat} {bs2 : List UInt8} {F2 : List Nat} (s : ByteArray) (h : PairW W w b1 bs1 F1 T2 b2 bs2 F2) (hs : s.size ≤ 140737488351232) (hl : bs1.length ≤ 400000) :
    Calls Tryd.prog 28 #[.pointer (some ⟨b1, 0, none⟩), .string s] w (LeftP W b1 (textB bs1 s) T2 b2 bs2 F2 (textL s)) :=
  (wtextN s h.n h.p hs hl).mono fun r w' ⟨v, E, F', h1, h2, _, h4, h5, h6⟩ => ⟨v, E, F', h1, h2, h.left h5 h4 h6⟩
theorem wnumR {W w : World} {b1 : Nat} {bs1 : List UInt8} {F1 : List Nat} {b2 : Nat} {bs2 : List UInt8} {F2 : List Nat} (n k : Int) (h : PairW W w b1 bs1 F1 82 b2 bs2 F2) (n0 : -9223372036854775808 ≤ n) (n1 : n ≤ 9223372036854775807) (k0 : -9223372036854775808 ≤ k) (k1 : k ≤ 9223372036854775807) (hl : bs2.length ≤ 400000) :
    Calls Tryd.prog 23 #[.pointer (some ⟨b2, 0, none⟩), .int .i64 n, .int .i64 k] w (RightP W b1 bs1 F1 82 b2 (numB bs2 n k) (numL n k)) :=
  (wnumN n k h.n h.q n0 n1 k0 k1 hl).mono fun r w' ⟨v, E, F', h1, h2, _, h4, h5, h6⟩ => ⟨v, E, F', h1, h2, h.right h5 h4 h6⟩
theorem wtextR {W w : World} {b1 : Nat} {bs1 : List UInt8} {F1 : List Nat} {b2 : Nat} {bs2 : List UInt8} {F2 : List Nat} (s : ByteArray) (h : PairW W w b1 bs1 F1 82 b2 bs2 F2) (hs : s.size ≤ 140737488351232) (hl : bs2.length ≤ 400000) :
    Calls Tryd.prog 28 #[.pointer (some ⟨b2, 0, none⟩), .string s] w (RightP W b1 bs1 F1 82 b2 (textB bs2 s) (textL s)) :=
  (wtextN s h.n h.q hs hl).mono fun r w' ⟨v, E, F', h1, h2, _, h4, h5, h6⟩ => ⟨v, E, F', h1, h2, h.right h5 h4 h6⟩
theorem codeW {W w : World} {b1 : Nat} {bs1 : List UInt8} {F1 : List Nat} {T2 b2 : Nat} {bs2 : List UInt8} {F2 : List Nat} {v : Value} {l : List Int} {E : List Nat} (h : PairW W w b1 bs1 F1 T2 b2 bs2 F2) (hE : Errs w v l E) (hl : l.length ≤ 1000) :
    Calls Tryd.prog 22 #[v] w fun r w' => r = .returned (.int .i64 (l.headD 0)) ∧ PairW W w' b1 bs1 F1 T2 b2 bs2 F2 :=
  (code_calls w v l E hE h.n.t hl).mono fun r w' ⟨h1, m⟩ => ⟨h1, h.step0 m⟩
theorem wbytesT (w : World) (b : Nat) (bs : List UInt8) (F : List Nat) (hW : Wtr w 82 b bs F) (S : ByteArray) (hS : S = txt bs) :
    Calls Tryd.prog 24 #[.pointer (some ⟨b, 0, none⟩)] w fun r w' => r = .returned (.string S) ∧ w = w' := by
  subst hS
  exact wbytes_calls w b bs F hW
/-- Two writers, and a reader. -/
structure RW (W w : World) (b1 : Nat) (bs1 : List UInt8) (F1 : List Nat) (T2 b2 : Nat) (bs2 : List UInt8) (F2 : List Nat) (br : Nat) (S : ByteArray) (a : Nat) : Prop where
  pw : PairW W w b1 bs1 F1 T2 b2 bs2 F2
  r : RdrN W w 90 br S a
  d1 : br ∉ F1
  d2 : br ∉ F2
section
variable {W w w' : World} {b1 : Nat} {bs1 : List UInt8} {F1 : List Nat} {T2 b2 : Nat} {bs2 : List UInt8} {F2 : List Nat} {br : Nat} {S : ByteArray} {a a' : Nat}
theorem RW.step0 (h : RW W w b1 bs1 F1 T2 b2 bs2 F2 br S a) (m : Mod [] w w') : RW W w' b1 bs1 F1 T2 b2 bs2 F2 br S a := ⟨h.pw.step0 m, h.r.mod0 m, h.d1, h.d2⟩
theorem RW.read (h : RW W w b1 bs1 F1 T2 b2 bs2 F2 br S a) (m : Mod [br] w w') (r : RdrN W w' 90 br S a') (n : Nw W w') : RW W w' b1 bs1 F1 T2 b2 bs2 F2 br S a' :=
  ⟨⟨n, h.pw.p.mod m (fun x hx hb => h.d1 (by simp at hb; rw [← hb]; exact hx)), h.pw.q.mod m (fun x hx hb => h.d2 (by simp at hb; rw [← hb]; exact hx)), h.pw.d⟩, r, h.d1, h.d2⟩
theorem newReaderRW (S : ByteArray) (h : PairW W w b1 bs1 F1 T2 b2 bs2 F2) :
    Calls Tryd.prog 31 #[.string S] w fun r w' => ∃ br, r = .returned (.pointer (some ⟨br, 0, none⟩)) ∧ RW W w' b1 bs1 F1 T2 b2 bs2 F2 br S 0 :=
  (newReaderN S h.n).mono fun r w' ⟨br, h1, h2, h3, m, hn⟩ => ⟨br, h1, h.step0 m, h3, fun hx => by have := h.p.h.lt _ hx; omega, fun hx => by have := h.q.h.lt _ hx; omega⟩
def ReadP (W : World) (b1 : Nat) (bs1 : List UInt8) (F1 : List Nat) (T2 b2 : Nat) (bs2 : List UInt8) (F2 : List Nat) (br : Nat) (S : ByteArray) (x : Value) (l : List Int) (a' : Nat) (r : Ending) (w' : World) : Prop :=
  ∃ v E, r = .returned (.tuple #[x, v]) ∧ Errs w' v l E ∧ RW W w' b1 bs1 F1 T2 b2 bs2 F2 br S a'
theorem rnumRW (k : Int) (h : RW W w b1 bs1 F1 T2 b2 bs2 F2 br S a) (hs : S.size ≤ 1000000) (k0 : -9223372036854775808 ≤ k) (k1 : k ≤ 9223372036854775807) (x : Int) (l : List Int) (hx : rdN S a k = x) (hl : rdL S a k = l) (ha : rdA S a k = a') :
    Calls Tryd.prog 32 #[.pointer (some ⟨br, 0, none⟩), .int .i64 k] w (ReadP W b1 bs1 F1 T2 b2 bs2 F2 br S (.int .i64 x) l a') := by
  subst hx
  subst hl
  subst ha
  exact (rnumN k h.pw.n h.r hs k0 k1).mono fun r w' ⟨v, E, h1, h2, _, h4, m, hn⟩ => ⟨v, E, h1, h2, h.read m h4 hn⟩
theorem rtextRW (h : RW W w b1 bs1 F1 T2 b2 bs2 F2 br S a) (hs : S.size ≤ 1000000) (x : ByteArray) (l : List Int) (hx : rtS S a = x) (hl : rtL S a = l) (ha : rtA S a = a') :
    Calls Tryd.prog 34 #[.pointer (some ⟨br, 0, none⟩)] w (ReadP W b1 bs1 F1 T2 b2 bs2 F2 br S (.string x) l a') := by
  subst hx
  subst hl
  subst ha
  exact (rtextN h.pw.n h.r hs).mono fun r w' ⟨v, E, h1, h2, _, h4, m, hn⟩ => ⟨v, E, h1, h2, h.read m h4 hn⟩
theorem rendRW (h : RW W w b1 bs1 F1 T2 b2 bs2 F2 br S a) (hs : S.size ≤ 1000000) (l : List Int) (hl : endL S a = l) :
    Calls Tryd.prog 36 #[.pointer (some ⟨br, 0, none⟩)] w fun r w' => ∃ v E, r = .returned v ∧ Errs w' v l E ∧ RW W w' b1 bs1 F1 T2 b2 bs2 F2 br S a := by
  subst hl
  exact (rendN h.pw.n h.r hs).mono fun r w' ⟨v, E, h1, h2, _, m, _⟩ => ⟨v, E, h1, h2, h.step0 m⟩
theorem codeRW {v : Value} {l : List Int} {E : List Nat} (h : RW W w b1 bs1 F1 T2 b2 bs2 F2 br S a) (hE : Errs w v l E) (hl : l.length ≤ 1000) :
    Calls Tryd.prog 22 #[v] w fun r w' => r = .returned (.int .i64 (l.headD 0)) ∧ RW W w' b1 bs1 F1 T2 b2 bs2 F2 br S a :=
  (code_calls w v l E hE h.pw.n.t hl).mono fun r w' ⟨h1, m⟩ => ⟨h1, h.step0 m⟩
theorem chainRW {v : Value} {l : List Int} {E : List Nat} (h : RW W w b1 bs1 F1 T2 b2 bs2 F2 br S a) (hE : Errs w v l E) (hl : l.length ≤ 1000) :
    Calls Tryd.prog 39 #[v] w fun r w' => ∃ A cap, r = .returned (.slice A l.length cap) ∧ RW W w' b1 bs1 F1 T2 b2 bs2 F2 br S a :=
  (chain_calls w v l E hE h.pw.n.t hl).mono fun r w' ⟨vl, h1, ho, m⟩ => by
    obtain ⟨A, cap, e, _⟩ := (own_slA ho).ex
    exact ⟨A, cap, by rw [h1, e], h.step0 m⟩
end
end Go.Proofs.YthcbhdadbohkjaaDoor
