/- Rows of two of one's own; the book, the client's side and what was heard, in memory, between two stages of a round. No condition beyond what stands in each. -/
import Derived.Test.YtdaapkbgfabmaaaSafeP
import Derived.Test.YtdaapkbgfabmaaaFair5
namespace Go.Proofs.Ytdaapkbgfabmaaa
open Go.RowKit
set_option linter.unusedVariables false
set_option linter.unusedSimpArgs false
attribute [local go_sem ↓] Go.wp_at_zero Go.wp_at_succ

theorem sl_info_ints : (Try.prog.info? 31).map (fun i => (i.zero, i.size, i.bytes)) = some (some (.slice none 0 0), 1, 24) := by kernel_rfl

/-- A row of two ints, at a block of its own. -/
structure RowB (base : Nat) (w : World) (v : Value) (x : Nat → Int) : Prop where
  ex : ∃ r, v = .slice (some ⟨r, 0, none⟩) 2 2 ∧ base ≤ r ∧ w.heap[r]? = some (.cells #[.int .i64 (x 0), .int .i64 (x 1)] 3 (0, 0))
/-- n rows of two, in a slice of one's own. -/
structure RowsB (base : Nat) (w : World) (v : Value) (n : Nat) (x : Nat → Nat → Int) : Prop where
  ex : ∃ vs, w.ownsRow base 31 1 v n vs ∧ ∀ i, i < n → RowB base w (vs.getD i undef) (x i)
theorem RowB.mod {base : Nat} {w w' : World} {v : Value} {x : Nat → Int} {S : List Nat} (h : RowB base w v x) (m : Mod S w w') (hs : ∀ s, s ∈ S → ∀ cs T, w.heap[s]? = some (.cells cs T (0, 0)) → T ≠ 3) : RowB base w' v x := by
  obtain ⟨r, e, hb, hr⟩ := h.ex
  exact ⟨r, e, hb, m.heap hr (fun hm => hs r hm _ _ hr rfl)⟩
theorem RowsB.mod {base : Nat} {w w' : World} {v : Value} {n : Nat} {x : Nat → Nat → Int} (h : RowsB base w v n x) (m : Mod [] w w') : RowsB base w' v n x := by
  obtain ⟨vs, h1, h2⟩ := h.ex
  exact ⟨vs, own_mod h1 m (by simp), fun i hi => (h2 i hi).mod m (by simp)⟩
theorem RowsB.ticks {base : Nat} {w : World} {v : Value} {n : Nat} {x : Nat → Nat → Int} (h : RowsB base w v n x) : Ticks w v n (fun _ => 2) x := by
  obtain ⟨vs, h1, h2⟩ := h.ex
  obtain ⟨A, cap, rfl, hn, hc, hx⟩ := (own_slA h1).ex
  refine ⟨A, cap, fun i => vs.getD i undef, rfl, hn, hc, fun h0 => ?_, fun i hi => ?_⟩
  · obtain ⟨b, off, rfl, hb⟩ := hx h0
    exact ⟨b, off, rfl, fun i hi => by have := hb i 0 hi (by omega); simpa using this⟩
  · obtain ⟨r, e, _, hr⟩ := (h2 i hi).ex
    refine ⟨_, _, e, Nat.le_refl _, by unfold maxLen; omega, fun _ => ⟨r, 0, rfl, fun j hj => ?_⟩⟩
    match j, hj with
    | 0, _ | 1, _ => simp [World.cell?, hr]
theorem own_type {w : World} {base e size n : Nat} {v : Value} {xs : List Value} (h : w.ownsRow base e size v n xs) : ∀ s, s ∈ v.ownBlock.toList → ∀ cs T, w.heap[s]? = some (.cells cs T (0, 0)) → T = e := by
  obtain ⟨_, h2 | ⟨g, cap, cur, rfl, hg, hh, _⟩⟩ := h
  · rw [h2.1]; simp [Value.ownBlock]
  · intro s hs cs T hc
    simp [Value.ownBlock] at hs
    subst hs
    rw [hh] at hc
    simp at hc
    exact hc.2.symm

/-- A row more is appended. -/
theorem app_rowB {ops : Array Oper} {rest : List Oper} {o : Oper} {a : Act} {Q : Exit → Act → World → Prop} {w : World} (base : Nat) (hgd : o.guard = none) (s y : Operand)
    (ho : o.op = .call { callee := .builtin .append, args := #[s, y], argTypes := #[40, 40] })
    (v : Value) (n : Nat) (x : Nat → Nat → Int) (hs : a.eval s = v) (hown : RowsB base w v n x) (g0 : Nat) (rv : Value) (z : Nat → Int) (hy : a.eval y = .slice (some ⟨g0, 0, none⟩) 1 1)
    (hc : w.cell? ⟨g0, 0, none⟩ = some rv) (hrow : RowB base w rv z) (hn : n ≤ 1000) (hbase : base ≤ w.heap.size)
    (h : ∀ v' w', RowsB base w' v' (n + 1) (fun i => if i < n then x i else z) → (∀ s, s ∈ v.ownBlock.toList → base ≤ s) → Mod v.ownBlock.toList w w' → (∃ A c, v' = .slice A (n + 1) c) → wpList Try.prog ops Q rest (a.put o.dst v') w') :
    wpList Try.prog ops Q (o :: rest) a w := by
  obtain ⟨vs, h1, h2⟩ := hown.ex
  obtain ⟨r, er, hb, hr⟩ := hrow.ex
  refine app1 base 40 31 _ 1 24 Try.underlying40 sl_info_ints rfl (by omega) (by omega) hgd s y ho v n vs hs h1 g0 [rv] hy rfl (news1 hc) (by intro u hu; rw [List.mem_singleton.1 hu, er]; rfl) (by omega) hbase ?_
  intro g cap w' q1 q2 q3 q4
  have hl : vs.length = n := by have := h1.1; simpa using this
  refine h _ _ ⟨vs ++ [rv], q1, fun i hi => ?_⟩ (fun s hs => by
    cases hv : v.ownBlock with
    | none => rw [hv] at hs; simp at hs
    | some k => rw [hv] at hs; simp at hs; subst hs; exact (own_lt' h1 _ hv).1) q2 ⟨_, _, rfl⟩
  have ht : ∀ s, s ∈ v.ownBlock.toList → ∀ cs T, w.heap[s]? = some (.cells cs T (0, 0)) → T ≠ 3 := fun s hs cs T hh => by rw [own_type h1 s hs cs T hh]; decide
  by_cases e : i < n
  · have e1 : (vs ++ [rv]).getD i undef = vs.getD i undef := by simp only [List.getD_eq_getElem?_getD, List.getElem?_append_left (show i < vs.length by omega)]
    rw [if_pos e, e1]
    exact (h2 i e).mod q2 ht
  · obtain rfl : i = n := by omega
    have e1 : (vs ++ [rv]).getD i undef = rv := by simp only [List.getD_eq_getElem?_getD, List.getElem?_append_right (show vs.length ≤ i by omega), hl]; simp
    rw [if_neg e, e1]
    exact hrow.mod q2 ht


theorem arr_ne {w : World} {b b' : Nat} {T T' : TypeId} {N N' : Nat} {f f' : Nat → Value} (h : Arr w b T N f) (h' : Arr w b' T' N' f') (ht : T ≠ T') : b ≠ b' := by
  rintro rfl
  obtain ⟨cs, h1, _, _⟩ := h
  obtain ⟨cs', h1', _, _⟩ := h'
  rw [h1] at h1'
  simp at h1'
  exact ht h1'.2
/-- The numbers of a list, as cells. -/
def nums (L : List Int) : List Value := L.map fun n => .int .i64 n
theorem nums_len (L : List Int) : (nums L).length = L.length := by simp [nums]
theorem nums_app (L : List Int) (n : Int) : nums (L ++ [n]) = nums L ++ [.int .i64 n] := by simp [nums]
/-- What stands in memory between two stages; N2: the heap's size when the list of what was heard was made. -/
structure MS (w1 wr : World) (N2 bB b p q : Nat) (num slack : Int) (u s : Nat → Int) (d : Nat → Bool) (a : Nat → Int) (last got till : Int) (vh : Value) (L : List Int) : Prop where
  bk : Bk wr bB u s d
  ow : Ow wr b p q num slack a last got till
  hd : wr.ownsRow N2 3 1 vh L.length (nums L)
  md : Mod [] w1 wr
  n1 : w1.heap.size ≤ bB
  n2 : w1.heap.size ≤ b
  n3 : w1.heap.size ≤ N2
  c1 : bB < N2
  c2 : b < N2
  c3 : p < N2
  c4 : q < N2
  hs : N2 ≤ wr.heap.size
namespace MS
variable {w1 wr w' : World} {N2 bB b p q tb : Nat} {num slack : Int} {u s u' s' : Nat → Int} {d d' : Nat → Bool} {a a' : Nat → Int} {last got till last' got' till' : Int} {vh vh' : Value} {L L' : List Int} {f : Nat → Value}
theorem e1 (h : MS w1 wr N2 bB b p q num slack u s d a last got till vh L) : b ≠ bB := arr_ne h.ow.arr h.bk.arr (by decide)
theorem e2 (h : MS w1 wr N2 bB b p q num slack u s d a last got till vh L) : p ≠ bB := arr_ne h.ow.cp h.bk.arr (by decide)
theorem e3 (h : MS w1 wr N2 bB b p q num slack u s d a last got till vh L) : q ≠ bB := arr_ne h.ow.cq h.bk.arr (by decide)
theorem e4 (h : MS w1 wr N2 bB b p q num slack u s d a last got till vh L) : ∀ k, vh.ownBlock = some k → N2 ≤ k := fun k hk => (own_lt' h.hd k hk).1
theorem same (h : MS w1 wr N2 bB b p q num slack u s d a last got till vh L) (m : Mod [] wr w') : MS w1 w' N2 bB b p q num slack u s d a last got till vh L :=
  ⟨h.bk.mod m (by simp), h.ow.mod m (by simp) (by simp) (by simp), own_mod h.hd m (by simp), h.md.trans m, h.n1, h.n2, h.n3, h.c1, h.c2, h.c3, h.c4, Nat.le_trans h.hs m.size⟩
theorem book (h : MS w1 wr N2 bB b p q num slack u s d a last got till vh L) (hb : Bk w' bB u' s' d') (m : Mod [bB] wr w') : MS w1 w' N2 bB b p q num slack u' s' d' a last got till vh L :=
  ⟨hb, h.ow.mod m (by simpa using h.e1) (by simpa using h.e2) (by simpa using h.e3), own_mod h.hd m (fun k hk => by have := h.e4 k hk; have := h.c1; simp; omega), h.md.fresh m (fun z hz => .inr (by have := h.n1; simp at hz; omega)), h.n1, h.n2, h.n3, h.c1, h.c2, h.c3, h.c4, Nat.le_trans h.hs m.size⟩
theorem own (h : MS w1 wr N2 bB b p q num slack u s d a last got till vh L) (ho : Ow w' b p q num slack a' last' got' till') (m : Mod [b] wr w') : MS w1 w' N2 bB b p q num slack u s d a' last' got' till' vh L :=
  ⟨h.bk.mod m (by simpa using fun e => h.e1 e.symm), ho, own_mod h.hd m (fun k hk => by have := h.e4 k hk; have := h.c2; simp; omega), h.md.fresh m (fun z hz => .inr (by have := h.n2; simp at hz; omega)), h.n1, h.n2, h.n3, h.c1, h.c2, h.c3, h.c4, Nat.le_trans h.hs m.size⟩
theorem heard (h : MS w1 wr N2 bB b p q num slack u s d a last got till vh L) (ho : w'.ownsRow N2 3 1 vh' L'.length (nums L')) (m : Mod vh.ownBlock.toList wr w') : MS w1 w' N2 bB b p q num slack u s d a last got till vh' L' := by
  have key : ∀ k, k ∈ vh.ownBlock.toList → N2 ≤ k := fun k hk => h.e4 k (by simpa using hk)
  refine ⟨h.bk.mod m (fun e => by have := key _ e; have := h.c1; omega), h.ow.mod m (fun e => by have := key _ e; have := h.c2; omega) (fun e => by have := key _ e; have := h.c3; omega) (fun e => by have := key _ e; have := h.c4; omega), ho, h.md.fresh m (fun z hz => .inr (by have := key z hz; have := h.n3; omega)), h.n1, h.n2, h.n3, h.c1, h.c2, h.c3, h.c4, Nat.le_trans h.hs m.size⟩
/-- The turn's own block is no other's. -/
theorem t1 (h : MS w1 wr N2 bB b p q num slack u s d a last got till vh L) (ht : Arr wr tb 81 5 f) (m : Mod [bB] wr w') : Arr w' tb 81 5 f :=
  ht.mod m (by simpa using arr_ne ht h.bk.arr (by decide))
theorem t2 (h : MS w1 wr N2 bB b p q num slack u s d a last got till vh L) (ht : Arr wr tb 81 5 f) (m : Mod [b] wr w') : Arr w' tb 81 5 f :=
  ht.mod m (by simpa using arr_ne ht h.ow.arr (by decide))
theorem t3 (h : MS w1 wr N2 bB b p q num slack u s d a last got till vh L) (ht : Arr wr tb 81 5 f) (m : Mod vh.ownBlock.toList wr w') : Arr w' tb 81 5 f := by
  refine ht.mod m (fun e => ?_)
  obtain ⟨cs, h1, _, _⟩ := ht
  exact absurd (own_type h.hd tb e _ _ h1) (by decide)
end MS
def turnF (x0 x1 x2 : Bool) (x3 x4 : Int) (j : Nat) : Value := if j = 0 then .bool x0 else if j = 1 then .bool x1 else if j = 2 then .bool x2 else if j = 3 then .int .u8 x3 else .int .u8 x4
/-- All that stands between two stages. -/
def LSI (x : Nat → Nat → Int) (num slack len : Int) (w1 : World) (N2 bB b p q : Nat) (i c e : Nat) (asked : Int) (vh : Value) (wr : World) : Prop :=
  ∃ u s d a last got till L, MS w1 wr N2 bB b p q num slack u s d a last got till vh L ∧ LS x num slack len i c asked u d a last got till L ∧ L.length ≤ e
end Go.Proofs.Ytdaapkbgfabmaaa
