/- Two writers, a row of steps, and a step's box in a law's worlds; what was written is read back step by step. No further condition. -/
import Derived.Test.YthcbhdadbohkjaaDoorPair
import Derived.Test.YthcbhdadbohkjaaDoorStep
namespace Go.Proofs.YthcbhdadbohkjaaDoor
open Go.RowKit
set_option linter.unusedVariables false
set_option linter.unusedSimpArgs false

theorem own_ltL {w : World} {base e size n : Nat} {v : Value} {xs : List Value} (h : w.ownsRow base e size v n xs) : ∀ x, x ∈ v.ownBlock.toList → base ≤ x ∧ x < w.heap.size := by
  intro x hx
  exact own_lt' h x (by simpa using hx)
structure Bk (W w : World) (b : Nat) (bs1 : List UInt8) (F1 : List Nat) (b2 : Nat) (bs2 : List UInt8) (F2 : List Nat) (v : Value) (n : Nat) (xs : List Value) : Prop where
  pw : PairW W w b bs1 F1 47 b2 bs2 F2
  row : w.ownsRow W.heap.size 49 4 v n xs
  d1 : ∀ x, x ∈ F1 → x ∉ v.ownBlock.toList
  d2 : ∀ x, x ∈ F2 → x ∉ v.ownBlock.toList
section
variable {W w w' : World} {b b2 : Nat} {bs1 bs1' bs2 bs2' : List UInt8} {F1 F1' F2 F2' : List Nat} {v v' : Value} {n n' : Nat} {xs xs' : List Value}
theorem Bk.step0 (h : Bk W w b bs1 F1 b2 bs2 F2 v n xs) (m : Mod [] w w') : Bk W w' b bs1 F1 b2 bs2 F2 v n xs := ⟨h.pw.step0 m, own_mod h.row m (by simp), h.d1, h.d2⟩
theorem Bk.left (h : Bk W w b bs1 F1 b2 bs2 F2 v n xs) (g : Grow F1 F1' w w') (p : WtrN W w' 82 b bs1' F1') (N : Nw W w') : Bk W w' b bs1' F1' b2 bs2 F2 v n xs :=
  ⟨h.pw.left g p N, own_mod h.row g.mod (fun k hk hF => h.d1 k hF (by simp [hk])), g.dj h.d1 (fun x hx => (own_ltL h.row x hx).2), h.d2⟩
theorem Bk.right (h : Bk W w b bs1 F1 b2 bs2 F2 v n xs) (g : Grow F2 F2' w w') (p : WtrN W w' 47 b2 bs2' F2') (N : Nw W w') : Bk W w' b bs1 F1 b2 bs2' F2' v n xs :=
  ⟨h.pw.right g p N, own_mod h.row g.mod (fun k hk hF => h.d2 k hF (by simp [hk])), h.d1, g.dj h.d2 (fun x hx => (own_ltL h.row x hx).2)⟩
theorem Bk.app (h : Bk W w b bs1 F1 b2 bs2 F2 v n xs) (m : Mod v.ownBlock.toList w w') (ho : w'.ownsRow W.heap.size 49 4 v' n' xs') (hg : ∀ x, x ∈ v'.ownBlock.toList → x ∈ v.ownBlock.toList ∨ w.heap.size ≤ x) : Bk W w' b bs1 F1 b2 bs2 F2 v' n' xs' :=
  ⟨⟨h.pw.n.step m (fun x hx => (own_ltL h.row x hx).1), h.pw.p.mod m h.d1, h.pw.q.mod m h.d2, h.pw.d⟩, ho,
    fun x hx hv => by
      rcases hg x hv with h1 | h1
      · exact h.d1 x hx h1
      · have := h.pw.p.h.lt x hx; omega,
    fun x hx hv => by
      rcases hg x hv with h1 | h1
      · exact h.d2 x hx h1
      · have := h.pw.q.h.lt x hx; omega⟩
structure Bx (W w : World) (b : Nat) (bs1 : List UInt8) (F1 : List Nat) (b2 : Nat) (bs2 : List UInt8) (F2 : List Nat) (v : Value) (n : Nat) (xs : List Value) (c : Nat) (f : Nat → Value) : Prop where
  bk : Bk W w b bs1 F1 b2 bs2 F2 v n xs
  bx : Arr w c 49 4 f
  e1 : c ∉ F1
  e2 : c ∉ F2
  e3 : c ∉ v.ownBlock.toList
variable {c : Nat} {f : Nat → Value}
theorem Bx.step0 (h : Bx W w b bs1 F1 b2 bs2 F2 v n xs c f) (m : Mod [] w w') : Bx W w' b bs1 F1 b2 bs2 F2 v n xs c f := ⟨h.bk.step0 m, h.bx.mod m (by simp), h.e1, h.e2, h.e3⟩
theorem Bx.left (h : Bx W w b bs1 F1 b2 bs2 F2 v n xs c f) (g : Grow F1 F1' w w') (p : WtrN W w' 82 b bs1' F1') (N : Nw W w') : Bx W w' b bs1' F1' b2 bs2 F2 v n xs c f :=
  ⟨h.bk.left g p N, h.bx.mod g.mod h.e1, fun hx => g.dj (G := [c]) (fun y hy hm => by simp at hm; subst hm; exact h.e1 hy) (fun x hx => by simp at hx; subst hx; exact h.bx.lt) c hx (by simp), h.e2, h.e3⟩
theorem Bx.right (h : Bx W w b bs1 F1 b2 bs2 F2 v n xs c f) (g : Grow F2 F2' w w') (p : WtrN W w' 47 b2 bs2' F2') (N : Nw W w') : Bx W w' b bs1 F1 b2 bs2' F2' v n xs c f :=
  ⟨h.bk.right g p N, h.bx.mod g.mod h.e2, h.e1, fun hx => g.dj (G := [c]) (fun y hy hm => by simp at hm; subst hm; exact h.e2 hy) (fun x hx => by simp at hx; subst hx; exact h.bx.lt) c hx (by simp), h.e3⟩
theorem Bx.app (h : Bx W w b bs1 F1 b2 bs2 F2 v n xs c f) (m : Mod v.ownBlock.toList w w') (ho : w'.ownsRow W.heap.size 49 4 v' n' xs') (hg : ∀ x, x ∈ v'.ownBlock.toList → x ∈ v.ownBlock.toList ∨ w.heap.size ≤ x) : Bx W w' b bs1 F1 b2 bs2 F2 v' n' xs' c f :=
  ⟨h.bk.app m ho hg, h.bx.mod m h.e3, h.e1, h.e2, fun hv => by
    rcases hg c hv with h1 | h1
    · exact h.e3 h1
    · have := h.bx.lt; omega⟩
theorem Bk.box (h : Bk W w b bs1 F1 b2 bs2 F2 v n xs) (cs : Array Value) (hf : Arr (w.alloc (.cells cs 49)) w.heap.size 49 4 f) : Bx W (w.alloc (.cells cs 49)) b bs1 F1 b2 bs2 F2 v n xs w.heap.size f :=
  ⟨h.step0 ((Mod.refl _ _).alloc _), hf, fun hx => by have := h.pw.p.h.lt _ hx; omega, fun hx => by have := h.pw.q.h.lt _ hx; omega, fun hx => by have := (own_ltL h.row _ hx).2; omega⟩
def XL (W : World) (b : Nat) (bs1 : List UInt8) (b2 : Nat) (bs2 : List UInt8) (F2 : List Nat) (v : Value) (n : Nat) (xs : List Value) (c : Nat) (f : Nat → Value) (l : List Int) (r : Ending) (w' : World) : Prop :=
  ∃ u E F1, r = .returned u ∧ Errs w' u l E ∧ Bx W w' b bs1 F1 b2 bs2 F2 v n xs c f
def XR (W : World) (b : Nat) (bs1 : List UInt8) (F1 : List Nat) (b2 : Nat) (bs2 : List UInt8) (v : Value) (n : Nat) (xs : List Value) (c : Nat) (f : Nat → Value) (l : List Int) (r : Ending) (w' : World) : Prop :=
  ∃ u E F2, r = .returned u ∧ RF w' u l E ∧ Bx W w' b bs1 F1 b2 bs2 F2 v n xs c f
theorem wnumX (h : Bx W w b bs1 F1 b2 bs2 F2 v n xs c f) (z k : Int) (n0 : -9223372036854775808 ≤ z) (n1 : z ≤ 9223372036854775807) (k0 : -9223372036854775808 ≤ k) (k1 : k ≤ 9223372036854775807) (hl : bs1.length ≤ 300000) :
    Calls Tryd.prog 23 #[.pointer (some ⟨b, 0, none⟩), .int .i64 z, .int .i64 k] w (XL W b (numB bs1 z k) b2 bs2 F2 v n xs c f (numL z k)) :=
  (wnumN z k h.bk.pw.n h.bk.pw.p n0 n1 k0 k1 (by omega)).mono fun r w' ⟨u, E, F', h1, h2, _, h4, h5, h6⟩ => ⟨u, E, F', h1, h2, h.left h5 h4 h6⟩
theorem wtextX (h : Bx W w b bs1 F1 b2 bs2 F2 v n xs c f) (s : ByteArray) (hs : s.size ≤ 140737488351232) (hl : bs1.length ≤ 300000) :
    Calls Tryd.prog 28 #[.pointer (some ⟨b, 0, none⟩), .string s] w (XL W b (textB bs1 s) b2 bs2 F2 v n xs c f (textL s)) :=
  (wtextN s h.bk.pw.n h.bk.pw.p hs (by omega)).mono fun r w' ⟨u, E, F', h1, h2, _, h4, h5, h6⟩ => ⟨u, E, F', h1, h2, h.left h5 h4 h6⟩
theorem rwnumX (h : Bx W w b bs1 F1 b2 bs2 F2 v n xs c f) (z k : Int) (n0 : -9223372036854775808 ≤ z) (n1 : z ≤ 9223372036854775807) (k0 : -9223372036854775808 ≤ k) (k1 : k ≤ 9223372036854775807) (hl : bs2.length ≤ 300000) :
    Calls Tryd.prog 27 #[.pointer (some ⟨b2, 0, none⟩), .int .i64 z, .int .i64 k] w (XR W b bs1 F1 b2 (numB bs2 z k) v n xs c f (numL z k)) :=
  (rwnumN z k h.bk.pw.n h.bk.pw.q n0 n1 k0 k1 hl).mono fun r w' ⟨u, E, F', h1, h2, _, h4, h5, h6⟩ => ⟨u, E, F', h1, h2, h.right h5 h4 h6⟩
theorem rwtextX (h : Bx W w b bs1 F1 b2 bs2 F2 v n xs c f) (s : ByteArray) (hs : s.size ≤ 140737488351232) (hl : bs2.length ≤ 300000) :
    Calls Tryd.prog 29 #[.pointer (some ⟨b2, 0, none⟩), .string s] w (XR W b bs1 F1 b2 (textB bs2 s) v n xs c f (textL s)) :=
  (rwtextN s h.bk.pw.n h.bk.pw.q hs hl).mono fun r w' ⟨u, E, F', h1, h2, _, h4, h5, h6⟩ => ⟨u, E, F', h1, h2, h.right h5 h4 h6⟩
theorem codeX {u : Value} {l : List Int} {E : List Nat} (h : Bx W w b bs1 F1 b2 bs2 F2 v n xs c f) (hE : Errs w u l E) (hl : l.length ≤ 1000) :
    Calls Tryd.prog 22 #[u] w fun r w' => r = .returned (.int .i64 (l.headD 0)) ∧ Bx W w' b bs1 F1 b2 bs2 F2 v n xs c f :=
  (code_calls w u l E hE h.bk.pw.n.t hl).mono fun r w' ⟨h1, m⟩ => ⟨h1, h.step0 m⟩
theorem rcodeX {u : Value} {l : List Int} {E : List Nat} (h : Bx W w b bs1 F1 b2 bs2 F2 v n xs c f) (hE : RF w u l E) (hl : l.length ≤ 1000) :
    Calls Tryd.prog 40 #[u] w fun r w' => r = .returned (.int .i64 (l.headD 0)) ∧ Bx W w' b bs1 F1 b2 bs2 F2 v n xs c f :=
  (rcode_calls w u l E hE hl).mono fun r w' ⟨h1, m⟩ => ⟨h1, h.step0 m⟩
end
/-- The row, a reader and the writers. -/
structure Rk (W w : World) (b : Nat) (bs1 : List UInt8) (F1 : List Nat) (b2 : Nat) (bs2 : List UInt8) (F2 : List Nat) (v : Value) (n : Nat) (xs : List Value) (br : Nat) (S : ByteArray) (a : Nat) : Prop where
  bk : Bk W w b bs1 F1 b2 bs2 F2 v n xs
  r : RdrN W w 90 br S a
  d1 : br ∉ F1
  d2 : br ∉ F2
  d3 : br ∉ v.ownBlock.toList
section
variable {W w w' : World} {b b2 : Nat} {bs1 bs2 : List UInt8} {F1 F2 : List Nat} {v : Value} {n : Nat} {xs : List Value} {br : Nat} {S : ByteArray} {a a' : Nat}
theorem Rk.step0 (h : Rk W w b bs1 F1 b2 bs2 F2 v n xs br S a) (mm : Mod [] w w') : Rk W w' b bs1 F1 b2 bs2 F2 v n xs br S a := ⟨h.bk.step0 mm, h.r.mod0 mm, h.d1, h.d2, h.d3⟩
theorem Rk.read (h : Rk W w b bs1 F1 b2 bs2 F2 v n xs br S a) (m : Mod [br] w w') (r : RdrN W w' 90 br S a') (N : Nw W w') : Rk W w' b bs1 F1 b2 bs2 F2 v n xs br S a' :=
  ⟨⟨⟨N, h.bk.pw.p.mod m (fun x hx hb => h.d1 (by simp at hb; rw [← hb]; exact hx)), h.bk.pw.q.mod m (fun x hx hb => h.d2 (by simp at hb; rw [← hb]; exact hx)), h.bk.pw.d⟩,
    own_mod h.bk.row m (fun k hk hb => h.d3 (by simp at hb; subst hb; simp [hk])), h.bk.d1, h.bk.d2⟩, r, h.d1, h.d2, h.d3⟩
theorem newReaderK (S : ByteArray) (h : Bk W w b bs1 F1 b2 bs2 F2 v n xs) :
    Calls Tryd.prog 31 #[.string S] w fun r w' => ∃ br, r = .returned (.pointer (some ⟨br, 0, none⟩)) ∧ Rk W w' b bs1 F1 b2 bs2 F2 v n xs br S 0 :=
  (newReaderN S h.pw.n).mono fun r w' ⟨br, h1, h2, h3, m, hn⟩ => ⟨br, h1, h.step0 m, h3, fun hx => by have := h.pw.p.h.lt _ hx; omega, fun hx => by have := h.pw.q.h.lt _ hx; omega, fun hx => by have := (own_ltL h.row _ hx).2; omega⟩
def RkP (W : World) (b : Nat) (bs1 : List UInt8) (F1 : List Nat) (b2 : Nat) (bs2 : List UInt8) (F2 : List Nat) (v : Value) (n : Nat) (xs : List Value) (br : Nat) (S : ByteArray) (x : Value) (a' : Nat) (r : Ending) (w' : World) : Prop :=
  ∃ u E, r = .returned (.tuple #[x, u]) ∧ Errs w' u [] E ∧ Rk W w' b bs1 F1 b2 bs2 F2 v n xs br S a'
theorem rnumK (h : Rk W w b bs1 F1 b2 bs2 F2 v n xs br S a) (k : Int) (hs : S.size ≤ 1000000) (k0 : -9223372036854775808 ≤ k) (k1 : k ≤ 9223372036854775807) (x : Int) (hx : rdN S a k = x) (hl : rdL S a k = []) (ha : rdA S a k = a') :
    Calls Tryd.prog 32 #[.pointer (some ⟨br, 0, none⟩), .int .i64 k] w (RkP W b bs1 F1 b2 bs2 F2 v n xs br S (.int .i64 x) a') := by
  subst hx
  subst ha
  exact (rnumN k h.bk.pw.n h.r hs k0 k1).mono fun r w' ⟨u, E, h1, h2, _, h4, mm, hn⟩ => ⟨u, E, h1, by rw [← hl]; exact h2, h.read mm h4 hn⟩
theorem rtextK (h : Rk W w b bs1 F1 b2 bs2 F2 v n xs br S a) (hs : S.size ≤ 1000000) (x : ByteArray) (hx : rtS S a = x) (hl : rtL S a = []) (ha : rtA S a = a') :
    Calls Tryd.prog 34 #[.pointer (some ⟨br, 0, none⟩)] w (RkP W b bs1 F1 b2 bs2 F2 v n xs br S (.string x) a') := by
  subst hx
  subst ha
  exact (rtextN h.bk.pw.n h.r hs).mono fun r w' ⟨u, E, h1, h2, _, h4, mm, hn⟩ => ⟨u, E, h1, by rw [← hl]; exact h2, h.read mm h4 hn⟩
theorem codeK {u : Value} {l : List Int} {E : List Nat} (h : Rk W w b bs1 F1 b2 bs2 F2 v n xs br S a) (hE : Errs w u l E) (hl : l.length ≤ 1000) :
    Calls Tryd.prog 22 #[u] w fun r w' => r = .returned (.int .i64 (l.headD 0)) ∧ Rk W w' b bs1 F1 b2 bs2 F2 v n xs br S a :=
  (code_calls w u l E hE h.bk.pw.n.t hl).mono fun r w' ⟨h1, mm⟩ => ⟨h1, h.step0 mm⟩
theorem rendK (h : Rk W w b bs1 F1 b2 bs2 F2 v n xs br S a) (hs : S.size ≤ 1000000) (hl : endL S a = []) :
    Calls Tryd.prog 36 #[.pointer (some ⟨br, 0, none⟩)] w fun r w' => ∃ u E, r = .returned u ∧ Errs w' u [] E ∧ Mod [] w w' ∧ Rk W w' b bs1 F1 b2 bs2 F2 v n xs br S a :=
  (rendN h.bk.pw.n h.r hs).mono fun r w' ⟨u, E, h1, h2, _, m, _⟩ => ⟨u, E, h1, by rw [← hl]; exact h2, m, h.step0 m⟩
end
/-! What lies in the row, and what its bytes are. -/
def stF (k z c : Int) (s : ByteArray) (i : Nat) : Value := if i = 0 then .int .i64 k else if i = 1 then .int .i64 z else if i = 2 then .int .i64 c else .string s
def stC (k z c : Int) (s : ByteArray) : List Value := [.int .i64 k, .int .i64 z, .int .i64 c, .string s]
def oneB (k z c : Int) (s : ByteArray) : List UInt8 := if k = 0 then leB z.toNat c.toNat else leB s.size 2 ++ s.data.toList
section
variable (kk nn cc : Nat → Int) (ss : Nat → ByteArray)
def rowC : List Nat → List Value
  | [] => []
  | i :: G => stC (kk i) (nn i) (cc i) (ss i) ++ rowC G
def flatB : List Nat → List UInt8
  | [] => []
  | i :: G => oneB (kk i) (nn i) (cc i) (ss i) ++ flatB G
def GoodSt (n i : Nat) : Prop := i < n ∧ ((kk i = 0 ∧ fitB (nn i) (cc i) = true) ∨ (kk i = 1 ∧ (ss i).size ≤ 1024))
theorem rowC_app (G : List Nat) (i : Nat) : rowC kk nn cc ss (G ++ [i]) = rowC kk nn cc ss G ++ stC (kk i) (nn i) (cc i) (ss i) := by
  induction G with
  | nil => simp [rowC]
  | cons x G ih => simp [rowC, ih, List.append_assoc]
theorem flatB_app (G H : List Nat) : flatB kk nn cc ss (G ++ H) = flatB kk nn cc ss G ++ flatB kk nn cc ss H := by
  induction G with
  | nil => simp [flatB]
  | cons x G ih => simp [flatB, ih, List.append_assoc]
theorem rowC_get : ∀ (G : List Nat) (j q : Nat) (hj : j < G.length), q < 4 → (rowC kk nn cc ss G).getD (j * 4 + q) undef = stF (kk G[j]) (nn G[j]) (cc G[j]) (ss G[j]) q := by
  intro G
  induction G with
  | nil => intro j q hj; simp at hj
  | cons x G ih =>
    intro j q hj hq
    cases j with
    | zero =>
      match q, hq with
      | 0, _ | 1, _ | 2, _ | 3, _ => rfl
    | succ j =>
      rw [rowC, show (j + 1) * 4 + q = 4 + (j * 4 + q) by omega]
      rw [List.getD_eq_getElem?_getD, List.getElem?_append_right (by simp [stC])]
      have := ih j q (by simpa using hj) hq
      rw [List.getD_eq_getElem?_getD] at this
      simp only [stC, List.length_cons, List.length_nil, Nat.zero_add, Nat.reduceAdd, Nat.add_sub_cancel_left, List.getElem_cons_succ]
      exact this
theorem own_empty (w : World) (base : Nat) (e : TypeId) (sz : Nat) (h : base ≤ w.heap.size) : (w.alloc (.cells #[] e)).ownsRow base e sz (.slice (some ⟨w.heap.size, 0, none⟩) 0 0) 0 [] :=
  ⟨by simp, .inr ⟨w.heap.size, 0, #[], rfl, h, heap_alloc_new w _, Nat.le_refl _, by decide, by simp, by simp⟩⟩
def posB (G : List Nat) (j : Nat) : Nat := (flatB kk nn cc ss (G.take j)).length
theorem flat_split (G : List Nat) (j : Nat) (hj : j < G.length) : flatB kk nn cc ss G = flatB kk nn cc ss (G.take j) ++ oneB (kk G[j]) (nn G[j]) (cc G[j]) (ss G[j]) ++ flatB kk nn cc ss (G.drop (j + 1)) := by
  have e : G = G.take j ++ ([G[j]] ++ G.drop (j + 1)) := by simp
  conv => lhs; rw [e]
  rw [flatB_app, flatB_app, List.append_assoc]
  simp [flatB]
theorem pos_succ (G : List Nat) (j : Nat) (hj : j < G.length) : posB kk nn cc ss G (j + 1) = posB kk nn cc ss G j + (oneB (kk G[j]) (nn G[j]) (cc G[j]) (ss G[j])).length := by
  unfold posB
  rw [List.take_succ_eq_append_getElem hj, flatB_app, List.length_append]
  simp [flatB]
theorem pos_end (G : List Nat) : posB kk nn cc ss G G.length = (flatB kk nn cc ss G).length := by
  unfold posB
  rw [List.take_length]
theorem pos_zero (G : List Nat) : posB kk nn cc ss G 0 = 0 := by simp [posB, flatB]
theorem back_num (G : List Nat) (j : Nat) (hj : j < G.length) (hk : kk G[j] = 0) (hf : fitB (nn G[j]) (cc G[j]) = true) (hb : nn G[j] ≤ 9223372036854775807) :
    rdN (txt (flatB kk nn cc ss G)) (posB kk nn cc ss G j) (cc G[j]) = nn G[j] ∧ rdL (txt (flatB kk nn cc ss G)) (posB kk nn cc ss G j) (cc G[j]) = [] ∧ rdA (txt (flatB kk nn cc ss G)) (posB kk nn cc ss G j) (cc G[j]) = posB kk nn cc ss G (j + 1) := by
  have e1 := flat_split kk nn cc ss G j hj
  have e2 := pos_succ kk nn cc ss G j hj
  generalize nn G[j] = z at *
  generalize cc G[j] = c at *
  unfold oneB at e1 e2
  rw [if_pos hk] at e1 e2
  have hp : posB kk nn cc ss G j = (flatB kk nn cc ss (G.take j)).length := rfl
  simp only [fitB, Bool.and_eq_true, decide_eq_true_eq] at hf
  obtain ⟨f1, f2, f3⟩ := hf
  have hc := wide_cases f1
  obtain ⟨c', rfl⟩ : ∃ c' : Nat, c = (c' : Int) := ⟨c.toNat, by omega⟩
  rw [Int.toNat_natCast] at e1 e2
  rw [leB_length] at e2
  have hn : z.toNat < 256 ^ c' := by
    rcases hc with h | h | h | h
    · obtain rfl : c' = 1 := by omega
      simp at f3 ⊢; omega
    · obtain rfl : c' = 2 := by omega
      simp at f3 ⊢; omega
    · obtain rfl : c' = 4 := by omega
      simp at f3 ⊢; omega
    · obtain rfl : c' = 8 := by omega
      simp; omega
  obtain ⟨h1, h2, h3⟩ := rd_at (flatB kk nn cc ss (G.take j)) (flatB kk nn cc ss (G.drop (j + 1))) z.toNat c' f1 hn (by omega)
  rw [← e1, ← hp] at h1 h2 h3
  exact ⟨by rw [h2]; omega, h1, by rw [h3, e2]⟩
theorem back_text (G : List Nat) (j : Nat) (hj : j < G.length) (hk : kk G[j] = 1) (hf : (ss G[j]).size ≤ 1024) :
    rtS (txt (flatB kk nn cc ss G)) (posB kk nn cc ss G j) = ss G[j] ∧ rtL (txt (flatB kk nn cc ss G)) (posB kk nn cc ss G j) = [] ∧ rtA (txt (flatB kk nn cc ss G)) (posB kk nn cc ss G j) = posB kk nn cc ss G (j + 1) := by
  have e1 := flat_split kk nn cc ss G j hj
  have e2 := pos_succ kk nn cc ss G j hj
  generalize ss G[j] = s at *
  unfold oneB at e1 e2
  rw [if_neg (by rw [hk]; decide)] at e1 e2
  have hp : posB kk nn cc ss G j = (flatB kk nn cc ss (G.take j)).length := rfl
  rw [List.length_append, leB_length] at e2
  obtain ⟨h1, h2, h3⟩ := rt_at (flatB kk nn cc ss (G.take j)) (flatB kk nn cc ss (G.drop (j + 1))) s hf
  rw [List.append_assoc (flatB kk nn cc ss (G.take j)), ← e1, ← hp] at h1 h2 h3
  have hsl : s.data.toList.length = s.size := rfl
  exact ⟨h2, h1, by rw [h3, e2, hsl]; omega⟩
end
end Go.Proofs.YthcbhdadbohkjaaDoor
