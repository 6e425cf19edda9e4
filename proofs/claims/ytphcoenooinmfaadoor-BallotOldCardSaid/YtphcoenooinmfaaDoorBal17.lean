/- Package ballot's Load; for the document's: errors kept in variables. Premises: the variables 'steps' and 'errorType' are as laid. -/
import Derived.Test.YtphcoenooinmfaaDoorBal16
namespace Go.Proofs.YtphcoenooinmfaaDoor
open Go.RowKit
set_option linter.unusedVariables false
set_option linter.unusedSimpArgs false
attribute [local go_sem ↓] Go.wp_at_zero Go.wp_at_succ

def LoadPost (w : World) (s : ByteArray) (r : Ending) (w' : World) : Prop :=
  Mod [] w w' ∧ ((ldR s = none ∧ r = .returned (.tuple #[.pointer none, .int .i64 30])) ∨
    (∃ p g f A, ldR s = some (p, g) ∧ r = .returned (.tuple #[.pointer (some ⟨A, 0, none⟩), .int .i64 0]) ∧ AccP w' A p g f ∧ w.heap.size ≤ A))
theorem body_le' (s : ByteArray) : (bodyB s).size ≤ s.size := by
  unfold bodyB
  split
  · rw [ByteArray.size_extract]; omega
  · exact Nat.zero_le _
set_option maxRecDepth 100000 in
set_option maxHeartbeats 1000000 in
theorem load_calls (w : World) (s : ByteArray) (hs : s.size ≤ 1000000) (hT : Steps w) (hE : ErrT w) :
    Calls Tryd.prog 38 #[.string s] w (LoadPost w s) := by
  have O := Lib.hid (open_calls w s hs hT)
  unfold OpenPost at O
  have hb := body_le' s
  have N0 := Lib.hid (Nw.refl hE)
  cases hk : okB s with
  | false =>
    rw [hk] at O
    have F : Hid (∀ w', Mod [] w w' → LoadPost w s (.returned (.tuple #[.pointer none, .int .i64 30])) w') := Lib.hid (fun w' m => ⟨m, .inl ⟨by unfold ldR; rw [if_neg (by rw [hk]; simp)], rfl⟩⟩)
    clear hk hT hE
    go_enter Tryd.func38, Tryd.ntmps38
    go_wp2_with fail
    refine O.out.mono ?_
    rintro e w1 ⟨rfl, m1⟩
    have M1 := Lib.hid m1
    clear m1
    go_wp2
    go_ret2
    exact F.out _ M1.out
  | true =>
    rw [hk] at O
    have hr : ldR s = ldAcc (bodyB s) := by unfold ldR; rw [if_pos hk]
    have HR := Lib.hid hr
    generalize bodyB s = t at *
    clear hk hT hE hr
    go_enter Tryd.func38, Tryd.ntmps38
    go_wp2_with fail
    refine O.out.mono ?_
    rintro e w1 ⟨rfl, m1⟩
    have N1 := Lib.hid (N0.out.step0 m1)
    have P2 := Lib.hid (newReaderN t N1.out)
    clear m1
    go_wp2_with fail
    (with_reducible refine P2.out.mono ?_)
    rintro e w2 ⟨R, rfl, hR, hR2, m2, hN2⟩
    have P3 := Lib.hid (read_calls w w2 R t hN2 hR2 (by omega))
    have Z := Lib.hid (And.intro hN2 hR2)
    clear hR hR2 m2 hN2 P2
    go_wp2_with fail
    (with_reducible refine P3.out.mono ?_)
    rintro e w3 ⟨hN3, ⟨hno, pv, v, l, E, rfl, hE3, hl⟩ | ⟨p, g, f, A, hyes, rfl, hA, hlo⟩⟩
    · rcases hE3.iface with rfl | ⟨ty, xv, rfl⟩
      · exact absurd (hE3.isNil.2 rfl) hl
      have F : Hid (LoadPost w s (.returned (.tuple #[.pointer none, .int .i64 30])) w3) := Lib.hid ⟨hN3.mod, .inl ⟨by rw [HR.out]; exact hno, rfl⟩⟩
      clear hN3 hno hE3 hl
      go_wp2
      go_ret2
      exact F.out
    · have F : Hid (LoadPost w s (.returned (.tuple #[.pointer (some ⟨A, 0, none⟩), .int .i64 0])) w3) := Lib.hid ⟨hN3.mod, .inr ⟨p, g, f, A, by rw [HR.out]; exact hyes, rfl, hA, Nat.le_trans Z.out.1.le hlo⟩⟩
      clear hN3 hyes hA hlo
      go_wp2
      go_ret2
      exact F.out
/-- A variable that holds an error of the document's. -/
structure FV (w : World) (R fb : Nat) (l : List Int) (A : Option Addr) (cap : Nat) (at_ : Int) : Prop where
  arr : Arr w fb 112 2 (fun i => if i = 0 then .slice A l.length cap else .int .i64 at_)
  rf : ∃ E, RF w (.agg #[.slice A l.length cap, .int .i64 at_]) l E ∧ R ∉ E
  ne : fb ≠ R
namespace FV
variable {w w' : World} {R fb : Nat} {l : List Int} {A : Option Addr} {cap : Nat} {at_ : Int}
theorem modR (h : FV w R fb l A cap at_) (m : Mod [R] w w') : FV w' R fb l A cap at_ :=
  ⟨h.arr.mod m (by simpa using h.ne), let ⟨E, h1, h2⟩ := h.rf; ⟨E, h1.mod m (fun x hx hs => by simp at hs; subst hs; exact h2 hx), h2⟩, h.ne⟩
theorem mod0 (h : FV w R fb l A cap at_) (m : Mod [] w w') : FV w' R fb l A cap at_ := h.modR m.nil
theorem c0 (h : FV w R fb l A cap at_) : w.cell? ⟨fb, 0, none⟩ = some (.slice A l.length cap) := h.arr.cell 0 (by omega)
theorem c1 (h : FV w R fb l A cap at_) : w.cell? ⟨fb, 1, none⟩ = some (.int .i64 at_) := h.arr.cell 1 (by omega)
theorem new {T a : Nat} {s : ByteArray} {E : List Nat} {W : World} (hF : RF w (.agg #[.slice A l.length cap, .int .i64 at_]) l E) (hx : R ∉ E) (hR : RdrN W w T R s a) :
    FV (w.alloc (.cells #[.slice A l.length cap, .int .i64 at_] 112)) R w.heap.size l A cap at_ :=
  ⟨Arr.new' w _ _ 2 _ rfl (fun i hi => by
    match i, hi with
    | 0, _ => rfl
    | 1, _ => rfl), ⟨E, hF.mod0 ((Mod.refl _ _).alloc _), hx⟩, by have := hR.lt; omega⟩
theorem code (h : FV w R fb l A cap at_) (hl : l.length ≤ 1000) : Calls Tryd.prog 67 #[.agg #[.slice A l.length cap, .int .i64 at_]] w fun r w' => r = .returned (.int .i64 (l.headD 0)) ∧ Mod [] w w' := by
  obtain ⟨E, h1, _⟩ := h.rf
  exact rcode_calls w _ l E h1 hl
end FV
theorem head_nz {l : List Int} (h : ∃ c m, l = c :: m ∧ c ≠ 0) : (l.headD 0 != 0) = true := by
  obtain ⟨c, m, rfl, hc⟩ := h
  simpa using hc
theorem rdL_nz {s : ByteArray} {a : Nat} {k : Int} (h : rdL s a k ≠ []) : ∃ c m, rdL s a k = c :: m ∧ c ≠ 0 := by
  unfold rdL at h ⊢
  split at h
  · rename_i e; rw [if_pos e]; exact ⟨1, [], rfl, by omega⟩
  · rename_i e
    rw [if_neg e]
    split at h
    · rename_i e2; rw [if_pos e2]; exact ⟨10, [], rfl, by omega⟩
    · rename_i e2
      rw [if_neg e2]
      split at h
      · rename_i e3; rw [if_pos e3]; exact ⟨11, [], rfl, by omega⟩
      · exact absurd rfl h
theorem rtL_nz {s : ByteArray} {a : Nat} (h : rtL s a ≠ []) : ∃ c m, rtL s a = c :: m ∧ c ≠ 0 := by
  unfold rtL at h ⊢
  split at h
  · rename_i e
    rw [if_pos e]
    obtain ⟨c, m, e1, hc⟩ := rdL_nz e
    exact ⟨c, m ++ rdL s a 2, by rw [e1]; rfl, hc⟩
  · rename_i e
    rw [if_neg e]
    split at h
    · rename_i e2; rw [if_pos e2]; exact ⟨11, [], rfl, by omega⟩
    · rename_i e2
      rw [if_neg e2]
      split at h
      · rename_i e3; rw [if_pos e3]; exact ⟨10, [], rfl, by omega⟩
      · exact absurd rfl h
theorem endL_nz {s : ByteArray} {a : Nat} (h : endL s a ≠ []) : ∃ c m, endL s a = c :: m ∧ c ≠ 0 := by
  unfold endL at h ⊢
  split at h
  · rename_i e; rw [if_pos e]; exact ⟨11, [], rfl, by omega⟩
  · exact absurd rfl h
def RLoadPost (w : World) (s : ByteArray) (e : Ending) (w' : World) : Prop :=
  Mod [] w w' ∧ ((ldR s = none ∧ e = .returned (.tuple #[.pointer none, .int .i64 30])) ∨
    (∃ p g r v, ldR s = some (p, g) ∧ e = .returned (.tuple #[.pointer (some ⟨r, 0, none⟩), .int .i64 0]) ∧ RAcc w' w.heap.size r p v (votesN g 4096) ∧ w.heap.size ≤ r))
theorem RAcc.modR {w w' : World} {B r R a : Nat} {p : Int} {v : Value} {L : List VoteT} {W : World} {t : ByteArray} (h : RAcc w B r p v L) (hR : RdrN W w 132 R t a) (m : Mod [R] w w') : RAcc w' B r p v L :=
  h.mod m (by simpa using arr_ne h.arr hR.h (by decide)) (fun k hk hx => by
    have := own_ne_arr h.own hR.h (by decide)
    rw [hk] at this
    simp at this hx
    exact this hx.symm)
end Go.Proofs.YtphcoenooinmfaaDoor
