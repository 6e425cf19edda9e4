/- Package ballot's read: which acceptor bytes are. Premise: the variable 'errorType' is as laid. -/
import Derived.Test.YtphcoenooinmfaaDoorBal14
namespace Go.Proofs.YtphcoenooinmfaaDoor
open Go.RowKit
set_option linter.unusedVariables false
set_option linter.unusedSimpArgs false
attribute [local go_sem ↓] Go.wp_at_zero Go.wp_at_succ

theorem arr_ne {w : World} {b c T U N M : Nat} {f g : Nat → Value} (h : Arr w b T N f) (k : Arr w c U M g) (hne : T ≠ U) : b ≠ c := fun e => by
  subst e
  obtain ⟨_, f1, _⟩ := h
  obtain ⟨_, f2, _⟩ := k
  rw [f1] at f2
  injection f2 with f2
  injection f2 with _ f2
  exact hne f2
theorem AccP.modS {S : List Nat} {w w' : World} {a : Nat} {p : Int} {g : Nat → Option VoteT} {f : Nat → Nat} (h : AccP w a p g f) (m : Mod S w w') (hS : ∀ x, x ∈ S → ∃ T N k, Arr w x T N k ∧ T ≠ 94 ∧ T ≠ 33) : AccP w' a p g f :=
  h.mod1 m (fun hx => by obtain ⟨T, N, k, hA, h1, _⟩ := hS _ hx; exact arr_ne hA h.arr h1 rfl) (fun i x hi hx hm => by obtain ⟨T, N, k, hA, _, h2⟩ := hS _ hm; exact arr_ne hA (h.vote i x hi hx).2.2 h2 rfl)
/-- Where the reading stands. -/
structure RS (W w : World) (t : ByteArray) (rb R bd A a : Nat) (v : Value) (l : List Int) (p : Int) (g : Nat → Option VoteT) (f : Nat → Nat) : Prop where
  n : Nw W w
  rd : RdrN W w 167 R t a
  bx : Arr w rb 125 1 (fun _ => .pointer (some ⟨R, 0, none⟩))
  er : Arr w bd 64 1 (fun _ => v)
  es : ∃ E, Errs w v l E
  ac : AccP w A p g f
  lo : W.heap.size ≤ bd
  la : W.heap.size ≤ A
namespace RS
variable {W w w' : World} {t : ByteArray} {rb R bd A a : Nat} {v : Value} {l : List Int} {p : Int} {g : Nat → Option VoteT} {f : Nat → Nat}
theorem step0 (h : RS W w t rb R bd A a v l p g f) (m : Mod [] w w') : RS W w' t rb R bd A a v l p g f :=
  ⟨h.n.step0 m, h.rd.mod0 m, h.bx.mod m (by simp), h.er.mod m (by simp), let ⟨E, hE⟩ := h.es; ⟨E, hE.mod0 m⟩, h.ac.mod m, h.lo, h.la⟩
theorem num (h : RS W w t rb R bd A a v l p g f) {k : Int} {r : Ending} (hp : NumPost W w R bd t a l k r w') : ∃ v', r = .returned (.int .i64 (rdN t a k)) ∧ RS W w' t rb R bd A (rdA t a k) v' (firstL l (rdL t a k)) p g f ∧ Mod [R, bd] w w' := by
  obtain ⟨v', E', h1, h2, h3, h4, h5, h6⟩ := hp
  refine ⟨v', h1, ⟨h6, h2, h.bx.mod h5 ?_, h3, ⟨E', h4⟩, h.ac.modS h5 ?_, h.lo, h.la⟩, h5⟩
  · have e1 := arr_ne h.bx h.rd.h (by decide)
    have e2 := arr_ne h.bx h.er (by decide)
    simp [e1, e2]
  · intro x hx
    simp at hx
    rcases hx with rfl | rfl
    · exact ⟨_, _, _, h.rd.h, by decide, by decide⟩
    · exact ⟨_, _, _, h.er, by decide, by decide⟩
theorem rdm (h : RS W w t rb R bd A a v l p g f) {a' : Nat} (hr : RdrN W w' 167 R t a') (m : Mod [R] w w') (hN : Nw W w') : RS W w' t rb R bd A a' v l p g f := by
  refine ⟨hN, hr, h.bx.mod m ?_, h.er.mod m ?_, ?_, h.ac.modS m ?_, h.lo, h.la⟩
  · simpa using arr_ne h.bx h.rd.h (by decide)
  · simpa using arr_ne h.er h.rd.h (by decide)
  · obtain ⟨E, hE⟩ := h.es
    exact ⟨E, hE.modS m (fun x hx => by simp at hx; subst hx; exact ⟨_, _, _, h.rd.h, by decide⟩)⟩
  · intro x hx
    simp at hx
    subst hx
    exact ⟨_, _, _, h.rd.h, by decide, by decide⟩
theorem acm (h : RS W w t rb R bd A a v l p g f) {p' : Int} {g' : Nat → Option VoteT} {f' : Nat → Nat} (ha : AccP w' A p' g' f') (m : Mod [A] w w') : RS W w' t rb R bd A a v l p' g' f' := by
  refine ⟨h.n.step m (fun x hx => by simp at hx; subst hx; exact h.la), h.rd.mod m ?_, h.bx.mod m ?_, h.er.mod m ?_, ?_, ha, h.lo, h.la⟩
  · simpa using Ne.symm (arr_ne h.ac.arr h.rd.h (by decide))
  · simpa using arr_ne h.bx h.ac.arr (by decide)
  · simpa using arr_ne h.er h.ac.arr (by decide)
  · obtain ⟨E, hE⟩ := h.es
    exact ⟨E, hE.modS m (fun x hx => by simp at hx; subst hx; exact ⟨_, _, _, h.ac.arr, by decide⟩)⟩
theorem erm (h : RS W w t rb R bd A a v l p g f) {v' : Value} {l' : List Int} {E' : List Nat} (hE : Errs w v' l' E') : RS W (w.setCell ⟨bd, 0, none⟩ v') t rb R bd A a v' l' p g f := by
  have m : Mod [bd] w (w.setCell ⟨bd, 0, none⟩ v') := (Mod.refl _ _).setCell (.inl (by simp)) _
  refine ⟨h.n.step m (fun x hx => by simp at hx; subst hx; exact h.lo), h.rd.mod m ?_, h.bx.mod m ?_, (h.er.set 0 _).congr (fun i hi => if_pos (Nat.lt_one_iff.1 hi)), ⟨E', hE.modS m (fun x hx => by simp at hx; subst hx; exact ⟨_, _, _, h.er, by decide⟩)⟩, h.ac.modS m ?_, h.lo, h.la⟩
  · simpa using Ne.symm (arr_ne h.er h.rd.h (by decide))
  · simpa using arr_ne h.bx h.er (by decide)
  · intro x hx
    simp at hx
    subst hx
    exact ⟨_, _, _, h.er, by decide, by decide⟩
theorem setC (h : RS W w t rb R bd A a v l p g f) {c N : Nat} {k : Nat → Value} (hC : Arr w c 33 N k) (hlo : W.heap.size ≤ c) (hf : ∀ i x, i < 4096 → g i = some x → f i ≠ c) (j : Nat) (u : Value) : RS W (w.setCell ⟨c, j, none⟩ u) t rb R bd A a v l p g f := by
  have m : Mod [c] w (w.setCell ⟨c, j, none⟩ u) := (Mod.refl _ _).setCell (.inl (by simp)) _
  refine ⟨h.n.step m (fun x hx => by simp at hx; subst hx; exact hlo), h.rd.mod m ?_, h.bx.mod m ?_, h.er.mod m ?_, ?_, h.ac.mod1 m ?_ (fun i x hi hx => by simpa using hf i x hi hx), h.lo, h.la⟩
  · simpa using Ne.symm (arr_ne hC h.rd.h (by decide))
  · simpa using arr_ne h.bx hC (by decide)
  · simpa using arr_ne h.er hC (by decide)
  · obtain ⟨E, hE⟩ := h.es
    exact ⟨E, hE.modS m (fun x hx => by simp at hx; subst hx; exact ⟨_, _, _, hC, by decide⟩)⟩
  · simpa using arr_ne h.ac.arr hC (by decide)
theorem setP (h : RS W w t rb R bd A a v l p g f) (b : Int) : RS W (w.setCell ⟨A, 0, none⟩ (.int .i64 b)) t rb R bd A a v l b g f := h.acm (h.ac.setP b) ((Mod.refl _ _).setCell (.inl (by simp)) _)
end RS
/-- What a reading call leaves. -/
def ReadPost (W w : World) (R : Nat) (t : ByteArray) (r : Ending) (w' : World) : Prop :=
  Nw W w' ∧ ((ldAcc t = none ∧ ∃ pv v l E, r = .returned (.tuple #[pv, v]) ∧ Errs w' v l E ∧ l ≠ []) ∨
    (∃ p g f A, ldAcc t = some (p, g) ∧ r = .returned (.tuple #[.pointer (some ⟨A, 0, none⟩), .nilIface]) ∧ AccP w' A p g f ∧ w.heap.size ≤ A))
theorem ReadPost.no {W w w' : World} {R : Nat} {t : ByteArray} {pv v : Value} {l : List Int} {E : List Nat} (hN : Nw W w') (h : ldAcc t = none) (hE : Errs w' v l E) (hl : l ≠ []) : ReadPost W w R t (.returned (.tuple #[pv, v])) w' := ⟨hN, .inl ⟨h, pv, v, l, E, rfl, hE, hl⟩⟩
theorem ReadPost.yes {W w w' : World} {R A : Nat} {t : ByteArray} {p : Int} {g : Nat → Option VoteT} {f : Nat → Nat} (hN : Nw W w') (h : ldAcc t = some (p, g)) (hA : AccP w' A p g f) (hl : w.heap.size ≤ A) : ReadPost W w R t (.returned (.tuple #[.pointer (some ⟨A, 0, none⟩), .nilIface])) w' := ⟨hN, .inr ⟨p, g, f, A, h, rfl, hA, hl⟩⟩
theorem firstL_nil {l m : List Int} : firstL l m = [] ↔ l = [] ∧ m = [] := by
  unfold firstL
  by_cases h : l = []
  · simp [h]
  · simp [h]
end Go.Proofs.YtphcoenooinmfaaDoor
