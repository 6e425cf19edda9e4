/- Package ballot's acceptor: New, Promised, Votes, Prepare. No further condition. -/
import Derived.Test.YtphcoenooinmfaaDoorBal4
namespace Go.Proofs.YtphcoenooinmfaaDoor
open Go.RowKit
set_option linter.unusedVariables false
set_option linter.unusedSimpArgs false
attribute [local go_sem ↓] Go.wp_at_zero Go.wp_at_succ

theorem AccP.mod1 {S : List Nat} {w w' : World} {a : Nat} {p : Int} {g : Nat → Option VoteT} {f : Nat → Nat} (h : AccP w a p g f) (m : Mod S w w') (ha : a ∉ S) (hS : ∀ i x, i < 4096 → g i = some x → f i ∉ S) : AccP w' a p g f :=
  ⟨h.arr.mod m ha, fun i x hi hx => ⟨(h.vote i x hi hx).1, (h.vote i x hi hx).2.1, (h.vote i x hi hx).2.2.mod m (hS i x hi hx)⟩⟩
theorem AccP.setP {w : World} {a : Nat} {p : Int} {g : Nat → Option VoteT} {f : Nat → Nat} (h : AccP w a p g f) (b : Int) : AccP (w.setCell ⟨a, 0, none⟩ (.int .i64 b)) a b g f :=
  ⟨(h.arr.set 0 _).congr fun i hi => by
    unfold accF
    by_cases e : i = 0
    · simp [e]
    · simp [e], fun i x hi hx => ⟨(h.vote i x hi hx).1, (h.vote i x hi hx).2.1, (h.vote i x hi hx).2.2.mod ((Mod.refl [a] w).setCell (.inl (by simp)) _) (by simpa using (h.vote i x hi hx).2.1)⟩⟩
theorem AccP.c0 {w : World} {a : Nat} {p : Int} {g : Nat → Option VoteT} {f : Nat → Nat} (h : AccP w a p g f) : w.cell? ⟨a, 0, none⟩ = some (.int .i64 p) := h.arr.cell 0 (by omega)
theorem promised_calls (w : World) (a : Nat) (p : Int) (g : Nat → Option VoteT) (f : Nat → Nat) (h : AccP w a p g f) :
    Calls Tryd.prog 27 #[.pointer (some ⟨a, 0, none⟩)] w fun r w' => r = .returned (.int .i64 p) ∧ w = w' := by
  have q0 := h.c0
  clear h
  go_enter Tryd.func27, Tryd.ntmps27
  go_wp2
  go_ret
  exact ⟨rfl, rfl⟩
theorem votes_calls (w : World) (a : Nat) (p : Int) (g : Nat → Option VoteT) (f : Nat → Nat) (h : AccP w a p g f) :
    Calls Tryd.prog 28 #[.pointer (some ⟨a, 0, none⟩)] w fun r w' => ∃ v, r = .returned v ∧ w'.ownsRow w.heap.size 33 3 v (votesF g 0 4096).length (vcells (votesF g 0 4096)) ∧ Mod [] w w' := by
  have C := Lib.hid (since_calls w a p g f 0 h)
  clear h
  go_enter Tryd.func28, Tryd.ntmps28
  go_wp2_with fail
  (with_reducible refine C.out.mono ?_)
  rintro r w1 ⟨v, rfl, ho, m⟩
  have F := Lib.hid (And.intro ho m)
  clear ho m
  go_wp2
  go_ret
  exact ⟨_, rfl, F.out.1, F.out.2⟩
def prepE (p b : Int) : Int := if balB b = false then 1 else if b < p then 5 else 0
def prepP (p b : Int) : Int := if prepE p b = 0 then b else p
def prepL (p b s : Int) (g : Nat → Option VoteT) : List VoteT := if prepE p b = 0 then votesF g s 4096 else []
def PrepPost (w : World) (a : Nat) (p b s : Int) (g : Nat → Option VoteT) (f : Nat → Nat) (r : Ending) (w' : World) : Prop :=
  ∃ v, r = .returned (.tuple #[v, .int .i64 (prepE p b)]) ∧ AccP w' a (prepP p b) g f ∧ w'.ownsRow w.heap.size 33 3 v (prepL p b s g).length (vcells (prepL p b s g)) ∧ Mod [a] w w'
set_option maxRecDepth 100000 in
set_option maxHeartbeats 1000000 in
theorem prepare_calls (w : World) (a : Nat) (p b s : Int) (g : Nat → Option VoteT) (f : Nat → Nat) (h : AccP w a p g f) :
    Calls Tryd.prog 23 #[.pointer (some ⟨a, 0, none⟩), .int .i64 b, .int .i64 s] w (PrepPost w a p b s g f) := by
  have HP := Lib.hid h
  have q0 := h.c0
  have f0 := h.arr.free 0
  cases hb : balB b with
  | false =>
    have B := Lib.hid (ballot_calls w b false hb)
    have e1 : prepE p b = 1 := by unfold prepE; rw [if_pos hb]
    have F : Hid (PrepPost w a p b s g f (.returned (.tuple #[.slice none 0 0, .int .i64 1])) w) := Lib.hid ⟨_, by rw [e1], by unfold prepP; rw [if_neg (by rw [e1]; decide)]; exact HP.out, by unfold prepL; rw [if_neg (by rw [e1]; decide)]; exact own_nil _ _ _ _, Mod.refl _ _⟩
    clear h hb e1
    go_enter Tryd.func23, Tryd.ntmps23
    go_wp2_with fail
    refine B.out.mono ?_
    rintro r w1 ⟨rfl, rfl⟩
    go_wp2
    go_ret2
    exact F.out
  | true =>
    have B := Lib.hid (ballot_calls w b true hb)
    by_cases hlt : b < p
    · have e1 : prepE p b = 5 := by unfold prepE; rw [if_neg (by rw [hb]; decide), if_pos hlt]
      have F : Hid (PrepPost w a p b s g f (.returned (.tuple #[.slice none 0 0, .int .i64 5])) w) := Lib.hid ⟨_, by rw [e1], by unfold prepP; rw [if_neg (by rw [e1]; decide)]; exact HP.out, by unfold prepL; rw [if_neg (by rw [e1]; decide)]; exact own_nil _ _ _ _, Mod.refl _ _⟩
      clear h hb e1
      go_enter Tryd.func23, Tryd.ntmps23
      go_wp2_with fail
      refine B.out.mono ?_
      rintro r w1 ⟨rfl, rfl⟩
      go_wp2
      go_ret2
      exact F.out
    · have e1 : prepE p b = 0 := by unfold prepE; rw [if_neg (by rw [hb]; decide), if_neg hlt]
      have C := Lib.hid (since_calls _ a b g f s (h.setP b))
      have e2 : prepP p b = b := by unfold prepP; rw [if_pos e1]
      have e3 : prepL p b s g = votesF g s 4096 := by unfold prepL; rw [if_pos e1]
      have HE := Lib.hid (And.intro e1 (And.intro e2 e3))
      have M0 : Hid (Mod [a] w (w.setCell ⟨a, 0, none⟩ (.int .i64 b))) := Lib.hid ((Mod.refl _ _).setCell (.inl (by simp)) _)
      have HA := Lib.hid (h.setP b)
      have hsz : (w.setCell ⟨a, 0, none⟩ (.int .i64 b)).heap.size = w.heap.size := by simp
      have HSZ := Lib.hid hsz
      clear h hb e1 e2 e3 hsz
      go_enter Tryd.func23, Tryd.ntmps23
      go_wp2_with fail
      refine B.out.mono ?_
      rintro r w1 ⟨rfl, rfl⟩
      go_wp2_with fail
      (with_reducible refine C.out.mono ?_)
      rintro r w2 ⟨v, rfl, ho, m⟩
      rw [HSZ.out] at ho
      have F : Hid (PrepPost w a p b s g f (.returned (.tuple #[v, .int .i64 0])) w2) := Lib.hid ⟨v, by rw [HE.out.1], by rw [HE.out.2.1]; exact HA.out.mod m, by rw [HE.out.2.2]; exact ho, M0.out.trans m.nil⟩
      clear ho m
      go_wp2
      go_ret2
      exact F.out
end Go.Proofs.YtphcoenooinmfaaDoor
