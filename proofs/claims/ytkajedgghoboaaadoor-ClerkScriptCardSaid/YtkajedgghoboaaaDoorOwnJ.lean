/- A client's own lease, and the document's, side by side. -/
import Derived.Test.YtkajedgghoboaaaDoorProg
import Derived.Test.YtkajedgghoboaaaDoorOwn
import Derived.Test.YtkajedgghoboaaaDoorROwn2
namespace Go.Proofs.YtkajedgghoboaaaDoor
open Go.RowKit
set_option linter.unusedVariables false
set_option linter.unusedSimpArgs false

/-- How many numbers are known. -/
def nV (last got : Int) : Nat := (last - max got (last - 16)).toNat
def sV (last got : Int) (i : Nat) : Int := last - nV last got + 1 + i
def gV (a : Nat → Int) (last got : Int) (i : Nat) : Int := a (sV last got i % 16).toNat
theorem lsa_congr {w : World} {v : Value} {n N0 : Nat} {s g s' g' : Nat → Int} (h : LsA w v n N0 s g) (e : ∀ i, i < n → s i = s' i ∧ g i = g' i) : LsA w v n N0 s' g' := by
  obtain ⟨A, cap, h1, h2, h3, h4⟩ := h
  refine ⟨A, cap, h1, h2, h3, fun hn => ?_⟩
  obtain ⟨k, off, e1, e2, e3⟩ := h4 hn
  exact ⟨k, off, e1, e2, fun i hi => by rw [← (e i hi).1, ← (e i hi).2]; exact e3 i hi⟩
theorem ro_congr {w : World} {b N0 : Nat} {num slack last : Int} {n n' : Nat} {s g s' g' : Nat → Int} {till : Int} (h : RO w b N0 num slack last n s g till) (hn : n = n') (e : ∀ i, i < n → s i = s' i ∧ g i = g' i) : RO w b N0 num slack last n' s' g' till := by
  subst hn
  obtain ⟨v, h1, h2⟩ := h.ex
  exact ⟨⟨v, h1, lsa_congr h2 e⟩, h.lo, h.hi⟩
/-- Both, at one. -/
structure J (w : World) (b p q r N0 : Nat) (num slack : Int) (a : Nat → Int) (last got till : Int) : Prop where
  own : Ow w b p q num slack a last got till
  ref : RO w r N0 num slack last (nV last got) (sV last got) (gV a last got) till
  lb : b < N0
  rb : r ≠ b
  rp : r ≠ p
  rq : r ≠ q
theorem nV_le (last got : Int) : nV last got ≤ 16 := by unfold nV; omega
theorem J.mod0 {w w' : World} {b p q r N0 : Nat} {num slack : Int} {a : Nat → Int} {last got till : Int} (h : J w b p q r N0 num slack a last got till) (m : Mod [] w w') : J w' b p q r N0 num slack a last got till :=
  ⟨h.own.mod m (by simp) (by simp) (by simp), h.ref.mod0 m, h.lb, h.rb, h.rp, h.rq⟩
theorem gV_bd {w : World} {b p q : Nat} {num slack : Int} {a : Nat → Int} {last got till : Int} (h : Ow w b p q num slack a last got till) (i : Nat) : 0 ≤ gV a last got i ∧ gV a last got i ≤ 1099511627776 := h.a0 _

theorem rask_ask (last now : Int) : raskE last now = askE last now := rfl
theorem nV_ask {last got : Int} (h : got ≤ last) : (if nV last got = 16 then 16 else nV last got + 1) = nV (last + 1) got := by
  unfold nV
  split <;> omega
theorem sV_ask {last got : Int} (h : got ≤ last) (i : Nat) (hi : i < nV (last + 1) got) : addN (sV last got) (nV last got) (last + 1) i = sV (last + 1) got i := by
  have e := nV_ask h
  unfold addN
  by_cases h16 : nV last got = 16
  · rw [if_pos h16] at e ⊢
    unfold sV
    rw [h16, ← e]
    split <;> omega
  · rw [if_neg h16] at e ⊢
    unfold sV
    rw [← e]
    split <;> omega
theorem gV_ask {a : Nat → Int} {last got now : Int} (h : got ≤ last) (h0 : 0 ≤ got) (i : Nat) (hi : i < nV (last + 1) got) : addN (gV a last got) (nV last got) now i = gV (upd a ((last + 1) % 16).toNat now) (last + 1) got i := by
  have e := nV_ask h
  have hs := sV_ask h i hi
  have h1 : nV last got ≤ 16 := nV_le _ _
  unfold gV
  rw [← hs]
  unfold addN upd
  by_cases h16 : nV last got = 16
  · rw [if_pos h16, if_pos h16]
    by_cases hi15 : i = 15
    · rw [if_pos hi15, if_pos hi15, if_pos rfl]
    · rw [if_neg hi15, if_neg hi15, if_neg]
      unfold sV
      rw [h16]
      rw [h16, if_pos rfl] at e
      omega
  · rw [if_neg h16, if_neg h16]
    by_cases hin : i = nV last got
    · rw [if_pos hin, if_pos hin, if_pos rfl]
    · rw [if_neg hin, if_neg hin, if_neg]
      unfold sV
      rw [if_neg h16] at e
      have : (nV last got : Int) = last - max got (last - 16) := by unfold nV; omega
      omega

/-- The middle of a step: the program's side has gone on, the document's has not. -/
theorem jAsk1 (w : World) (b p q r N0 : Nat) (num slack : Int) (a : Nat → Int) (last got till now : Int) (h : J w b p q r N0 num slack a last got till) :
    Calls Tryd.prog 32 #[.pointer (some ⟨b, 0, none⟩), .int .i64 now] w fun e w' => e = .returned (.tuple #[.int .i64 (askV last now), .int .i64 (askE last now)]) ∧
      Ow w' b p q num slack (askA a last now) (askL last now) got till ∧ RO w' r N0 num slack last (nV last got) (sV last got) (gV a last got) till ∧ Mod [b] w w' := by
  refine (owAsk_calls w b p q num slack a last got till now h.own).mono ?_
  rintro e w' ⟨rfl, h2, h3⟩
  exact ⟨rfl, h2, h.ref.mod h3 (by simpa using h.rb) (by intro x hx; simp at hx; have := h.lb; omega), h3⟩
theorem jAsk2 (w : World) (b p q r N0 : Nat) (num slack : Int) (a : Nat → Int) (last got till now : Int)
    (h : Ow w b p q num slack (askA a last now) (askL last now) got till) (hr : RO w r N0 num slack last (nV last got) (sV last got) (gV a last got) till)
    (lb : b < N0) (rb : r ≠ b) (rp : r ≠ p) (rq : r ≠ q) (l0 : 0 ≤ last) (l1 : last ≤ 1099511627776) (g0 : 0 ≤ got) (g1 : got ≤ last) :
    Calls Tryd.prog 69 #[.pointer (some ⟨r, 0, none⟩), .int .i64 now] w fun e w' => e = .returned (.tuple #[.int .i64 (askV last now), .int .i64 (askE last now)]) ∧
      J w' b p q r N0 num slack (askA a last now) (askL last now) got till ∧ Mod [r] w w' := by
  refine (roAsk_calls w r N0 num slack last _ _ _ till now hr (nV_le _ _) l0 l1).mono ?_
  rintro e w' ⟨rfl, h2, h3⟩
  rw [rask_ask] at h2 ⊢
  refine ⟨rfl, ⟨h.mod h3 (by simpa using fun e => rb e.symm) (by simpa using fun e => rp e.symm) (by simpa using fun e => rq e.symm), ?_, lb, rb, rp, rq⟩, h3⟩
  by_cases e0 : askE last now = 0
  · rw [if_pos e0] at h2
    simp only [askL, askA, e0, if_true]
    exact ro_congr h2 (nV_ask g1) fun i hi => ⟨sV_ask g1 i (by rw [← nV_ask g1]; exact hi), gV_ask g1 g0 i (by rw [← nV_ask g1]; exact hi)⟩
  · rw [if_neg e0] at h2
    simp only [askL, askA, if_neg e0]
    exact h2

theorem nV_eq {last got : Int} (h : got ≤ last) : (nV last got : Int) = last - max got (last - 16) := by unfold nV; omega
theorem at_yes {a : Nat → Int} {last got seq : Int} (g1 : got ≤ last) (h1 : ¬ seq ≤ got) (h2 : ¬ last < seq) (h3 : ¬ seq ≤ last - 16) : atV (gV a last got) (seq - (last - nV last got)) (nV last got) = a (seq % 16).toNat := by
  have e := nV_eq g1
  unfold atV
  rw [if_pos (by omega)]
  unfold gV sV
  congr 2
  omega
theorem at_no {a : Nat → Int} {last got seq : Int} (g1 : got ≤ last) (h : seq ≤ got ∨ last < seq ∨ seq ≤ last - 16) : atV (gV a last got) (seq - (last - nV last got)) (nV last got) = -1 := by
  have e := nV_eq g1
  unfold atV
  rw [if_neg (by omega)]
theorem jGot1 (w : World) (b p q r N0 : Nat) (num slack : Int) (a : Nat → Int) (last got till seq len : Int) (h : J w b p q r N0 num slack a last got till) :
    Calls Tryd.prog 63 #[.pointer (some ⟨b, 0, none⟩), .int .i64 seq, .int .i64 len] w fun e w' => e = .returned (.int .i64 (gotE last got seq len)) ∧
      Ow w' b p q num slack a last (gotG last got seq len) (gotT a last got till seq len num slack) ∧ RO w' r N0 num slack last (nV last got) (sV last got) (gV a last got) till ∧ Mod [b] w w' := by
  refine (owGot_calls w b p q num slack a last got till seq len h.own).mono ?_
  rintro e w' ⟨rfl, h2, h3⟩
  exact ⟨rfl, h2, h.ref.mod h3 (by simpa using h.rb) (by intro x hx; simp at hx; have := h.lb; omega), h3⟩
theorem jGot2 (w : World) (b p q r N0 : Nat) (num slack : Int) (a : Nat → Int) (last got till seq len : Int)
    (h : Ow w b p q num slack a last (gotG last got seq len) (gotT a last got till seq len num slack)) (hr : RO w r N0 num slack last (nV last got) (sV last got) (gV a last got) till)
    (lb : b < N0) (rb : r ≠ b) (rp : r ≠ p) (rq : r ≠ q) (g0 : 0 ≤ got) (g1 : got ≤ last) (t0 : -1 ≤ till) (t1 : till ≤ 2199023255552) :
    Calls Tryd.prog 70 #[.pointer (some ⟨r, 0, none⟩), .int .i64 seq, .int .i64 len] w fun e w' => e = .returned (.int .i64 (gotE last got seq len)) ∧
      J w' b p q r N0 num slack a last (gotG last got seq len) (gotT a last got till seq len num slack) ∧ Mod [r] w w' := by
  refine (roGot_calls w r N0 num slack last _ _ _ till seq len hr (nV_le _ _) h.l0 h.l1 (fun i _ => rfl) (fun i => h.a0 _) t0 t1).mono ?_
  intro e w' hp
  have fin : e = .returned (.int .i64 (gotE last got seq len)) ∧ RO w' r N0 num slack last (nV last (gotG last got seq len)) (sV last (gotG last got seq len)) (gV a last (gotG last got seq len)) (gotT a last got till seq len num slack) ∧ Mod [r] w w' := by
    unfold RgotPost at hp
    by_cases ho : okT len = false
    · rw [if_pos ho] at hp
      obtain ⟨rfl, h2, h3⟩ := hp
      have e1 : gotE last got seq len = 1 := by simp [gotE, ho]
      simp only [gotG, gotT, e1, if_neg (show ¬ (1 : Int) = 0 by omega)]
      exact ⟨trivial, h2, h3⟩
    · rw [if_neg ho] at hp
      have ho' : okT len = true := by simpa using ho
      by_cases hin : seq ≤ got ∨ last < seq ∨ seq ≤ last - 16
      · rw [at_no g1 hin, if_neg (by omega)] at hp
        obtain ⟨rfl, h2, h3⟩ := hp
        have e1 : gotE last got seq len = 3 := by
          simp only [gotE, ho', Bool.true_eq_false, if_false]
          split
          · rfl
          · split
            · rfl
            · rw [if_pos (by omega)]
        simp only [gotG, gotT, e1, if_neg (show ¬ (3 : Int) = 0 by omega)]
        exact ⟨trivial, h2, h3⟩
      · have k1 : ¬ seq ≤ got := fun x => hin (.inl x)
        have k2 : ¬ last < seq := fun x => hin (.inr (.inl x))
        have k3 : ¬ seq ≤ last - 16 := fun x => hin (.inr (.inr x))
        rw [at_yes g1 k1 k2 k3, if_pos (h.a0 _).1] at hp
        obtain ⟨rfl, h2, h3⟩ := hp
        have e1 : gotE last got seq len = 0 := by simp [gotE, ho', k1, k2, k3]
        have en := nV_eq g1
        have en2 := nV_eq (last := last) (got := seq) (by omega)
        simp only [gotG, gotT, e1, if_true]
        refine ⟨trivial, ro_congr h2 (by omega) fun i hi => ?_, h3⟩
        have es : sV last got ((seq - (last - nV last got)).toNat + i) = sV last seq i := by unfold sV; omega
        refine ⟨es, ?_⟩
        unfold gV
        rw [es]
  exact ⟨fin.1, ⟨h.mod fin.2.2 (by simpa using fun e => rb e.symm) (by simpa using fun e => rp e.symm) (by simpa using fun e => rq e.symm), fin.2.1, lb, rb, rp, rq⟩, fin.2.2⟩
theorem nV_self (last : Int) : nV last last = 0 := by unfold nV; omega
theorem jLose1 (w : World) (b p q r N0 : Nat) (num slack : Int) (a : Nat → Int) (last got till : Int) (h : J w b p q r N0 num slack a last got till) :
    Calls Tryd.prog 65 #[.pointer (some ⟨b, 0, none⟩)] w fun e w' => e = .returned (.tuple #[]) ∧
      Ow w' b p q num slack a last last (-1) ∧ RO w' r N0 num slack last (nV last got) (sV last got) (gV a last got) till ∧ Mod [b] w w' := by
  refine (owLose_calls w b p q num slack a last got till h.own).mono ?_
  rintro e w' ⟨rfl, h2, h3⟩
  exact ⟨rfl, h2, h.ref.mod h3 (by simpa using h.rb) (by intro x hx; simp at hx; have := h.lb; omega), h3⟩
theorem jLose2 (w : World) (b p q r N0 : Nat) (num slack : Int) (a : Nat → Int) (last got till : Int)
    (h : Ow w b p q num slack a last last (-1)) (hr : RO w r N0 num slack last (nV last got) (sV last got) (gV a last got) till) (lb : b < N0) (rb : r ≠ b) (rp : r ≠ p) (rq : r ≠ q) :
    Calls Tryd.prog 82 #[.pointer (some ⟨r, 0, none⟩)] w fun e w' => e = .returned (.tuple #[]) ∧ J w' b p q r N0 num slack a last last (-1) ∧ Mod [r] w w' := by
  refine (roLose_calls w r N0 num slack last _ _ _ (sV last last) (gV a last last) till hr).mono ?_
  rintro e w' ⟨rfl, h2, h3⟩
  refine ⟨rfl, ⟨h.mod h3 (by simpa using fun e => rb e.symm) (by simpa using fun e => rp e.symm) (by simpa using fun e => rq e.symm), ?_, lb, rb, rp, rq⟩, h3⟩
  exact ro_congr h2 (nV_self last).symm fun i hi => ⟨rfl, rfl⟩
end Go.Proofs.YtkajedgghoboaaaDoor
