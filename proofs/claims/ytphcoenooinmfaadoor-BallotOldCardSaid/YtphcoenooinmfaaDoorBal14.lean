/- What bytes are which acceptor: plain definitions; the closure that reads numbers and keeps the first error. Premise: the variable 'errorType' is as laid. -/
import Derived.Test.YtphcoenooinmfaaDoorBal13
namespace Go.Proofs.YtphcoenooinmfaaDoor
open Go.RowKit
set_option linter.unusedVariables false
set_option linter.unusedSimpArgs false
attribute [local go_sem ↓] Go.wp_at_zero Go.wp_at_succ

abbrev LdSt := Nat × Int × (Nat → Option VoteT)
def ldX (t : ByteArray) (a : Nat) : VoteT := ⟨rdN t a 2, rdN t (rdA t a 2) 8, rtS t (rdA t (rdA t a 2) 8)⟩
def ldA (t : ByteArray) (a : Nat) : Nat := rtA t (rdA t (rdA t a 2) 8)
def ldOk (t : ByteArray) (p : Int) (a : Nat) (last : Int) : Prop :=
  rdL t a 2 = [] ∧ rdL t (rdA t a 2) 8 = [] ∧ rtL t (rdA t (rdA t a 2) 8) = [] ∧ last < (ldX t a).s ∧ (ldX t a).b ≤ p ∧ accE 0 (ldX t a) = 0
open Classical in
noncomputable def ldStep (t : ByteArray) (p : Int) (q : LdSt) : Option LdSt := if ldOk t p q.1 q.2.1 then some (ldA t q.1, (ldX t q.1).s, setG q.2.2 (ldX t q.1)) else none
noncomputable def ldLoop (t : ByteArray) (p : Int) : Nat → Option LdSt
  | 0 => some (rdA t (rdA t 0 8) 2, -1, fun _ => none)
  | k + 1 => (ldLoop t p k).bind (ldStep t p)
def ldN (t : ByteArray) : Int := rdN t (rdA t 0 8) 2
def ldP (t : ByteArray) : Int := rdN t 0 8
def ldHead (t : ByteArray) : Prop := rdL t 0 8 = [] ∧ rdL t (rdA t 0 8) 2 = []
open Classical in
/-- The acceptor that bytes are: what it promised, its votes. -/
noncomputable def ldAcc (t : ByteArray) : Option (Int × (Nat → Option VoteT)) :=
  if ldHead t ∧ ldP t ≤ 1099511627776 then
    match ldLoop t (ldP t) (ldN t).toNat with
    | some (a, _, g) => if endL t a = [] then some (ldP t, g) else none
    | none => none
  else none
noncomputable def ldR (s : ByteArray) : Option (Int × (Nat → Option VoteT)) := if okB s = true then ldAcc (bodyB s) else none
theorem ld_step_yes {t : ByteArray} {p : Int} {k a : Nat} {last : Int} {g : Nat → Option VoteT} (h : ldLoop t p k = some (a, last, g)) (ho : ldOk t p a last) : ldLoop t p (k + 1) = some (ldA t a, (ldX t a).s, setG g (ldX t a)) := by
  simp only [ldLoop, h, Option.bind_some, ldStep, ho, if_true]
theorem ld_step_no {t : ByteArray} {p : Int} {k a : Nat} {last : Int} {g : Nat → Option VoteT} (h : ldLoop t p k = some (a, last, g)) (ho : ¬ ldOk t p a last) : ldLoop t p (k + 1) = none := by
  simp only [ldLoop, h, Option.bind_some, ldStep, ho, if_false]
theorem ld_none {t : ByteArray} {p : Int} {k : Nat} (h : ldLoop t p k = none) : ∀ n, k ≤ n → ldLoop t p n = none := by
  intro n
  induction n with
  | zero => intro hk; obtain rfl : k = 0 := by omega
            exact h
  | succ n ih =>
    intro hk
    by_cases e : k = n + 1
    · subst e; exact h
    · simp only [ldLoop, ih (by omega), Option.bind_none]
theorem ldAcc_bad {t : ByteArray} (h : ¬ ldHead t) : ldAcc t = none := by unfold ldAcc; rw [if_neg (fun x => h x.1)]
theorem ldAcc_high {t : ByteArray} (h : ¬ ldP t ≤ 1099511627776) : ldAcc t = none := by unfold ldAcc; rw [if_neg (fun x => h x.2)]
theorem ldAcc_mid {t : ByteArray} {k a : Nat} {last : Int} {g : Nat → Option VoteT} (h : ldLoop t (ldP t) k = some (a, last, g)) (ho : ¬ ldOk t (ldP t) a last) (hk : k < (ldN t).toNat) : ldAcc t = none := by
  unfold ldAcc
  rw [ld_none (ld_step_no h ho) _ (by omega)]
  split <;> rfl
theorem ldAcc_end {t : ByteArray} {a : Nat} {last : Int} {g : Nat → Option VoteT} (h : ldLoop t (ldP t) (ldN t).toNat = some (a, last, g)) (he : endL t a ≠ []) : ldAcc t = none := by
  unfold ldAcc
  rw [h]
  simp only [he, if_false]
  split <;> rfl
theorem ldAcc_yes {t : ByteArray} {a : Nat} {last : Int} {g : Nat → Option VoteT} (h0 : ldHead t) (hp : ldP t ≤ 1099511627776) (h : ldLoop t (ldP t) (ldN t).toNat = some (a, last, g)) (he : endL t a = []) : ldAcc t = some (ldP t, g) := by
  unfold ldAcc
  rw [if_pos ⟨h0, hp⟩, h]
  simp only [he, if_true]
theorem rdN_bd (s : ByteArray) (a : Nat) (k : Int) : 0 ≤ rdN s a k ∧ rdN s a k ≤ 9223372036854775807 := by
  unfold rdN
  split
  · omega
  · split
    · omega
    · split
      · omega
      · rename_i h
        have e : (2 : Nat) ^ 63 = 9223372036854775808 := by decide
        omega
theorem rtS_size {s : ByteArray} {a : Nat} (ha : s.size ≤ 1000000) : (rtS s a).size ≤ 1000000 := by
  unfold rtS
  split
  · rw [ByteArray.size_extract]; omega
  · simp [ByteArray.size]
theorem Errs.modS {w w' : World} {v : Value} {l : List Int} {E S : List Nat} (h : Errs w v l E) (m : Mod S w w') (hS : ∀ x, x ∈ S → ∃ T N f, Arr w x T N f ∧ T ≠ 120) : Errs w' v l E := by
  induction h with
  | nil => exact .nil
  | @fault g' e a u l E hF _ ih =>
    refine .fault (hF.mod m ?_) ih
    intro hx
    obtain ⟨T, N, f, hA, hne⟩ := hS _ hx
    obtain ⟨c1, f1, _⟩ := hF
    obtain ⟨c2, f2, _⟩ := hA
    rw [f1] at f2
    injection f2 with f2
    injection f2 with _ f2
    exact hne f2.symm
  | num => exact .num
/-- A number read, its error kept if it is the first. -/
def firstL (l m : List Int) : List Int := if l = [] then m else l
def NumPost (W w : World) (R bd : Nat) (t : ByteArray) (a : Nat) (l : List Int) (k : Int) (r : Ending) (w' : World) : Prop :=
  ∃ v' E', r = .returned (.int .i64 (rdN t a k)) ∧ RdrN W w' 167 R t (rdA t a k) ∧ Arr w' bd 64 1 (fun _ => v') ∧ Errs w' v' (firstL l (rdL t a k)) E' ∧ Mod [R, bd] w w' ∧ Nw W w'
set_option maxRecDepth 100000 in
set_option maxHeartbeats 1000000 in
theorem num_calls (W w : World) (rb R bd a : Nat) (t : ByteArray) (v : Value) (l : List Int) (E : List Nat) (k : Int) (hN : Nw W w) (hR : RdrN W w 167 R t a) (ht : t.size ≤ 1000000)
    (hrb : Arr w rb 125 1 (fun _ => .pointer (some ⟨R, 0, none⟩))) (hbd : Arr w bd 64 1 (fun _ => v)) (hlo : W.heap.size ≤ bd) (hv : Errs w v l E) (k0 : -9223372036854775808 ≤ k) (k1 : k ≤ 9223372036854775807) :
    Calls Tryd.prog 88 #[.int .i64 k, .pointer (some ⟨rb, 0, none⟩), .pointer (some ⟨bd, 0, none⟩)] w (NumPost W w R bd t a l k) := by
  have c0 := hrb.cell 0 (by omega)
  have P := Lib.hid (rnumN k hN hR ht k0 k1)
  have hRb : bd ≠ R := fun e => by
    subst e
    obtain ⟨_, f1, _⟩ := hbd
    obtain ⟨_, f2, _⟩ := hR.h
    rw [f1] at f2
    injection f2 with f2
    injection f2 with _ f2
    exact absurd f2 (by decide)
  have HBD := Lib.hid hbd
  have HV := Lib.hid hv
  have HR := Lib.hid hR
  have HN := Lib.hid hN
  clear hrb hbd hv hR hN
  go_enter Tryd.func88, Tryd.ntmps88
  go_wp2_with fail
  (with_reducible refine P.out.mono ?_)
  rintro r w1 ⟨v1, E1, rfl, hE1, hx1, hR1, m1, hN1⟩
  have B1 := HBD.out.mod m1 (by simpa using hRb)
  have b0 := B1.cell 0 (by omega)
  have f0 := B1.free 0
  have V1 : Errs w1 v l E := HV.out.modS m1 (fun x hx => by simp at hx; subst hx; exact ⟨_, _, _, HR.out.h, by decide⟩)
  have mS : Mod [bd] w1 (w1.setCell ⟨bd, 0, none⟩ v1) := (Mod.refl _ _).setCell (.inl (by simp)) _
  have m1' : Mod [R, bd] w w1 := m1.mono (by simp)
  rcases hE1.iface with rfl | ⟨ty, xv, rfl⟩
  all_goals
    rcases HV.out.iface with rfl | ⟨ty2, xv2, rfl⟩
  all_goals
    have K := Lib.hid (And.intro hE1 (And.intro hR1 (And.intro hN1 (And.intro B1 (And.intro V1 (And.intro mS m1'))))))
    clear hE1 hx1 hR1 m1 hN1 B1 V1 mS m1'
    go_wp2
    go_ret
    obtain ⟨hE1, hR1, hN1, B1, V1, mS, m1'⟩ := K.out
  · have el : l = [] := V1.isNil.2 rfl
    subst el
    refine ⟨_, E1, rfl, hR1.mod mS (by simpa using Ne.symm hRb), (B1.set 0 _).congr (fun i hi => if_pos (Nat.lt_one_iff.1 hi)), ?_, m1'.trans (mS.mono (by simp)), hN1.step mS (fun x hx => by simp at hx; subst hx; exact hlo)⟩
    unfold firstL
    rw [if_pos rfl]
    exact hE1.modS mS (fun x hx => by simp at hx; subst hx; exact ⟨_, _, _, B1, by decide⟩)
  · have el : l ≠ [] := fun e => by cases V1.isNil.1 e
    refine ⟨_, E, rfl, hR1, B1, ?_, m1', hN1⟩
    unfold firstL
    rw [if_neg el]
    exact V1
  · have el : l = [] := V1.isNil.2 rfl
    subst el
    refine ⟨_, E1, rfl, hR1.mod mS (by simpa using Ne.symm hRb), (B1.set 0 _).congr (fun i hi => if_pos (Nat.lt_one_iff.1 hi)), ?_, m1'.trans (mS.mono (by simp)), hN1.step mS (fun x hx => by simp at hx; subst hx; exact hlo)⟩
    unfold firstL
    rw [if_pos rfl]
    exact hE1.modS mS (fun x hx => by simp at hx; subst hx; exact ⟨_, _, _, B1, by decide⟩)
  · have el : l ≠ [] := fun e => by cases V1.isNil.1 e
    refine ⟨_, E, rfl, hR1, B1, ?_, m1', hN1⟩
    unfold firstL
    rw [if_neg el]
    exact V1
end Go.Proofs.YtphcoenooinmfaaDoor
