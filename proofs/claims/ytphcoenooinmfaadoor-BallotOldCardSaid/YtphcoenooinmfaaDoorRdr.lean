/- Package field's reader: what its calls come to. No condition but that the reader lies in memory. -/
import Derived.Test.YtphcoenooinmfaaDoorWtr
import Derived.Deep.DeepCutAuto
namespace Go.Proofs.YtphcoenooinmfaaDoor
open Go.RowKit
set_option linter.unusedVariables false
set_option linter.unusedSimpArgs false
attribute [local go_sem ↓] Go.wp_at_zero Go.wp_at_succ

def rdF (s : ByteArray) (a : Nat) (i : Nat) : Value := if i = 0 then .string s else .int .i64 a
/-- A reader (of type T) at b: its bytes s, and where it is. -/
def Rdr (w : World) (T b : Nat) (s : ByteArray) (a : Nat) : Prop := Arr w b T 2 (rdF s a)
theorem Rdr.mod {S : List Nat} {w w' : World} {T b : Nat} {s : ByteArray} {a : Nat} (h : Rdr w T b s a) (m : Mod S w w') (hb : b ∉ S) : Rdr w' T b s a := Arr.mod h m hb
theorem Rdr.mod0 {w w' : World} {T b : Nat} {s : ByteArray} {a : Nat} (h : Rdr w T b s a) (m : Mod [] w w') : Rdr w' T b s a := Arr.mod h m (by simp)
theorem Rdr.c0 {w : World} {T b : Nat} {s : ByteArray} {a : Nat} (h : Rdr w T b s a) : w.cell? ⟨b, 0, none⟩ = some (.string s) := Arr.cell h 0 (by omega)
theorem Rdr.c1 {w : World} {T b : Nat} {s : ByteArray} {a : Nat} (h : Rdr w T b s a) : w.cell? ⟨b, 1, none⟩ = some (.int .i64 a) := Arr.cell h 1 (by omega)
theorem Rdr.to {w : World} {T b : Nat} {s : ByteArray} {a : Nat} (h : Rdr w T b s a) (c : Nat) : Rdr (w.setCell ⟨b, 1, none⟩ (.int .i64 c)) T b s c :=
  (Arr.set h 1 (.int .i64 c)).congr fun i hi => by
    match i, hi with
    | 0, _ => simp [rdF]
    | 1, _ => simp [rdF]
theorem Rdr.new (w : World) (T : Nat) (s : ByteArray) : Rdr (w.alloc (.cells #[.string s, .int .i64 0] T)) T w.heap.size s 0 :=
  Arr.new' w _ _ 2 _ rfl (fun i hi => by
    match i, hi with
    | 0, _ => rfl
    | 1, _ => rfl)
theorem wide_cases {k : Int} (h : wideB k = true) : k = 1 ∨ k = 2 ∨ k = 4 ∨ k = 8 := by simpa [wideB] using h
theorem pow_cases (k : Nat) (h : (k : Int) = 1 ∨ (k : Int) = 2 ∨ (k : Int) = 4 ∨ (k : Int) = 8) : 256 ^ k ≤ 18446744073709551616 := by
  rcases h with h | h | h | h
  · obtain rfl : k = 1 := by omega
    decide
  · obtain rfl : k = 2 := by omega
    decide
  · obtain rfl : k = 4 := by omega
    decide
  · obtain rfl : k = 8 := by omega
    decide

/-- What a look at a number leaves. -/
def PeekPost (w : World) (s : ByteArray) (a : Nat) (k : Int) (r : Ending) (w' : World) : Prop :=
  ∃ v E, r = .returned (.tuple #[.int .i64 (rdN s a k), v]) ∧ Errs w' v (rdL s a k) E ∧ (∀ x, x ∈ E → w.heap.size ≤ x) ∧ Mod [] w w'
theorem pow256 (j : Nat) : 256 ^ j = 2 ^ (8 * j) := by rw [Nat.pow_mul]
/-- One byte more. -/
theorem or_step (f : Nat → Nat) (a j k : Nat) (hf : ∀ i, f i < 256) (hj : j < k) (hk : 256 ^ k ≤ 18446744073709551616) :
    bits .or .u64 ((leN f a j : Nat) : Int) (IntKind.u64.wrap (IntKind.u64.wrap ((f (a + j) : Nat) : Int) * 2 ^ (8 * j))) = ((leN f a (j + 1) : Nat) : Int) := by
  have h1 := hf (a + j)
  have h2 := leN_lt f a j hf
  have h3 : 256 ^ (j + 1) ≤ 256 ^ k := Nat.pow_le_pow_right (by omega) (by omega)
  have h4 : f (a + j) * 256 ^ j < 256 ^ (j + 1) := by
    rw [Nat.pow_succ, Nat.mul_comm]
    exact Nat.mul_lt_mul_of_pos_left h1 (Nat.pow_pos (by omega))
  have h5 : 256 ^ j < 18446744073709551616 := Nat.lt_of_lt_of_le (Nat.pow_lt_pow_right (by omega) (Nat.lt_succ_self j)) (by omega)
  have e1 : IntKind.u64.wrap ((f (a + j) : Nat) : Int) = ((f (a + j) : Nat) : Int) := by rw [IntKind.wrap_u64]; omega
  have e2 : ((f (a + j) : Nat) : Int) * 2 ^ (8 * j) = ((f (a + j) * 256 ^ j : Nat) : Int) := by
    rw [pow256]
    push_cast
    rfl
  have e3 : IntKind.u64.wrap ((f (a + j) * 256 ^ j : Nat) : Int) = ((f (a + j) * 256 ^ j : Nat) : Int) := by
    rw [IntKind.wrap_u64]
    generalize f (a + j) * 256 ^ j = z at *
    omega
  rw [e1, e2, e3, leN]
  have hl : leN f a j < 18446744073709551616 := by omega
  have hz : f (a + j) * 256 ^ j < 18446744073709551616 := by omega
  have e4 : leN f a j + f (a + j) * 256 ^ j = leN f a j ||| (f (a + j) * 256 ^ j) := by
    rw [pow256]
    exact (or_disj (by rw [← pow256]; exact h2)).symm
  rw [e4]
  generalize f (a + j) * 256 ^ j = z at *
  generalize leN f a j = y at *
  have hy' : y % 2 ^ IntKind.u64.bits = y := Nat.mod_eq_of_lt hl
  have hz' : z % 2 ^ IntKind.u64.bits = z := Nat.mod_eq_of_lt hz
  have hx : y ||| z < 18446744073709551616 := Nat.or_lt_two_pow (n := 64) hl hz
  simp only [bits, BitVec.ofInt_natCast, BitVec.toNat_or, BitVec.toNat_ofNat, hy', hz']
  rw [IntKind.wrap_u64]
  omega
set_option maxRecDepth 100000 in
set_option maxHeartbeats 4000000 in
theorem peek_calls (w : World) (b : Nat) (s : ByteArray) (a : Nat) (k : Int) (hR : Rdr w 167 b s a) (ha : a ≤ s.size) (hs : s.size ≤ 1000000) (k0 : -9223372036854775808 ≤ k) (k1 : k ≤ 9223372036854775807) :
    Calls Tryd.prog 94 #[.pointer (some ⟨b, 0, none⟩), .int .i64 k] w (PeekPost w s a k) := by
  have c0 := hR.c0
  have c1 := hR.c1
  have W0 := fun (w : World) (e : Int) (he : e ≠ 0) => Lib.hid (wrapE_calls w e a .nilIface [] [] he .nil)
  clear hR
  by_cases hw : wideB k = true
  rotate_left
  · have hw' : wideB k = false := by simpa using hw
    have e1 : rdN s a k = 0 := by simp [rdN, hw']
    have e2 : rdL s a k = [1] := by simp [rdL, hw']
    have E1 := Lib.hid e1
    have E2 := Lib.hid e2
    have ne1 : (k == 1) = false := by simp [wideB] at hw; simp; omega
    have ne2 : (k == 2) = false := by simp [wideB] at hw; simp; omega
    have ne4 : (k == 4) = false := by simp [wideB] at hw; simp; omega
    have ne8 : (k == 8) = false := by simp [wideB] at hw; simp; omega
    have nf1 : (k != 1) = true := by simp [wideB] at hw; simp; omega
    have nf2 : (k != 2) = true := by simp [wideB] at hw; simp; omega
    have nf4 : (k != 4) = true := by simp [wideB] at hw; simp; omega
    have nf8 : (k != 8) = true := by simp [wideB] at hw; simp; omega
    clear hw hw' e1 e2
    go_enter Tryd.func94, Tryd.ntmps94
    go_wp2_with fail
    refine (W0 _ 1 (by omega)).out.mono ?_
    rintro r w1 ⟨v, rfl, hE, m1⟩
    have F := Lib.hid (And.intro hE m1)
    clear hE m1 c0 c1
    go_wp2
    go_ret2
    exact ⟨v, _, by rw [E1.out]; rfl, by rw [E2.out]; exact F.out.1, fun x hx => by simp at hx; omega, F.out.2⟩
  have hk4 := wide_cases hw
  obtain ⟨kn, rfl⟩ : ∃ kn : Nat, k = (kn : Int) := ⟨k.toNat, by omega⟩
  have hpow := pow_cases kn hk4
  have hk8 : kn ≤ 8 := by omega
  have hk0 : 0 < kn := by omega
  have eN : rdN s a kn = if (s.size : Int) - a < kn then 0 else if 2 ^ 63 ≤ leN (byS s) a kn then 0 else ((leN (byS s) a kn : Nat) : Int) := by simp [rdN, hw]
  have eL : rdL s a kn = if (s.size : Int) - a < kn then [10] else if 2 ^ 63 ≤ leN (byS s) a kn then [11] else [] := by simp [rdL, hw]
  have EN := Lib.hid eN
  have EL := Lib.hid eL
  have HK4 := Lib.hid hk4
  clear hw eN eL hk4
  go_enter Tryd.func94, Tryd.ntmps94
  go_upto_region 1 with (fail)
  go_cut [8] (fun s8 wx => s8 = .bool false ∧ wx = w)
  case first =>
    rcases HK4.out with h | h | h | h
    · have nf1 : ((kn : Int) != 1) = false := by rw [h]; rfl
      clear h
      go_wp2
      go_meet
      exact ⟨rfl, rfl⟩
    · have nf1 : ((kn : Int) != 1) = true := by rw [h]; rfl
      have nf2 : ((kn : Int) != 2) = false := by rw [h]; rfl
      clear h
      go_wp2
      go_meet
      exact ⟨rfl, rfl⟩
    · have nf1 : ((kn : Int) != 1) = true := by rw [h]; rfl
      have nf2 : ((kn : Int) != 2) = true := by rw [h]; rfl
      have nf4 : ((kn : Int) != 4) = false := by rw [h]; rfl
      clear h
      go_wp2
      go_meet
      exact ⟨rfl, rfl⟩
    · have nf1 : ((kn : Int) != 1) = true := by rw [h]; rfl
      have nf2 : ((kn : Int) != 2) = true := by rw [h]; rfl
      have nf4 : ((kn : Int) != 4) = true := by rw [h]; rfl
      have nf8 : ((kn : Int) != 8) = false := by rw [h]; rfl
      clear h
      go_wp2
      go_meet
      exact ⟨rfl, rfl⟩
  case rest =>
  obtain ⟨h8, hwx⟩ := hcut
  subst h8
  subst hwx
  have ws : IntKind.i64.wrap ((s.size : Int) - (a : Int)) = (s.size : Int) - (a : Int) := IntWalk.i64_in _ (by omega)
  by_cases hsh : (s.size : Int) - a < kn
  · have t1 : decide ((s.size : Int) - (a : Int) < (kn : Int)) = true := by simpa using hsh
    have e1 := EN.out
    have e2 := EL.out
    rw [if_pos hsh] at e1 e2
    have E1 := Lib.hid e1
    have E2 := Lib.hid e2
    clear e1 e2 EN EL HK4 hsh
    go_wp2
    go_quiet (fail)
    go_wp2_with fail
    refine (W0 _ 10 (by omega)).out.mono ?_
    rintro r w1 ⟨v, rfl, hE, m1⟩
    have F := Lib.hid (And.intro hE m1)
    clear hE m1 c0 c1
    go_wp2
    go_ret2
    exact ⟨v, _, by rw [E1.out]; rfl, by rw [E2.out]; exact F.out.1, fun x hx => by simp at hx; simp [hx], (((Mod.refl [] _).drewN _).trans F.out.2)⟩
  · have t1 : decide ((s.size : Int) - (a : Int) < (kn : Int)) = false := by simpa using hsh
    have e1 := EN.out
    have e2 := EL.out
    rw [if_neg hsh] at e1 e2
    have E1 := Lib.hid e1
    have E2 := Lib.hid e2
    have hfit : a + kn ≤ s.size := by omega
    clear e1 e2 EN EL HK4 hsh
    go_wp2
    go_quiet (fail)
    go_wp2
    go_loopw [6, 47] (fun v i wr => ∃ j : Nat, j ≤ kn ∧ i = .int .i64 j ∧ v = .int .u64 ((leN (byS s) a j : Nat) : Int) ∧ Mod [] wc wr) (fun _ i _ => kn - (intOf i).toNat)
    case atStart => exact ⟨0, Nat.zero_le _, rfl, rfl, (Mod.refl _ _).drewN _⟩
    case round =>
      obtain ⟨j, hj, rfl, rfl, hM⟩ := hrel
      have d0 := hM.cell' c0 (by simp)
      have d1 := hM.cell' c1 (by simp)
      have HM := Lib.hid hM
      clear c0 c1 hM
      by_cases hlt : j < kn
      · have i2 : (j : Int) < (kn : Int) := by omega
        have hlen : a + j < s.size := by omega
        have w2 : IntKind.i64.wrap ((a : Int) + (j : Int)) = (a : Int) + (j : Int) := IntWalk.i64_in _ (by omega)
        have w3 : IntKind.i64.wrap (8 * (j : Int)) = 8 * (j : Int) := IntWalk.i64_in _ (by omega)
        have n1 : ((a : Int) + (j : Int)).toNat = a + j := by omega
        have n2 : (0 : Int) ≤ (a : Int) + (j : Int) := by omega
        have n3 : (a : Int) + (j : Int) < (s.size : Int) := by omega
        have n4 : (0 : Int) ≤ 8 * (j : Int) := by omega
        have n5 : (8 * (j : Int)).toNat = 8 * j := by omega
        have eb := byS_eq s (a + j) hlen
        have HOR := Lib.hid (or_step (byS s) a j kn (byS_lt s) hlt hpow)
        go_wp2
        go_quiet (fail)
        rw [HOR.out]
        clear ws w2 w3 n1 n5 eb
        go_wp2
        go_roundw
        case rel => exact ⟨j + 1, by omega, by go_num, rfl, HM.out.drewN _⟩
        case measure => simp [intOf]; omega
      · have i2 : ¬ (j : Int) < (kn : Int) := by omega
        obtain rfl : j = kn := by omega
        have hlt2 := Nat.lt_of_lt_of_le (leN_lt (byS s) a j (byS_lt s)) hpow
        obtain ⟨V, hV⟩ : ∃ V, V = leN (byS s) a j := ⟨_, rfl⟩
        rw [← hV] at hlt2 E1 E2 ⊢
        clear hV ws
        by_cases h63 : 2 ^ 63 ≤ V
        · have e1 := E1.out
          have e2 := E2.out
          rw [if_pos h63] at e1 e2
          have E1' := Lib.hid e1
          have E2' := Lib.hid e2
          have h63' : 9223372036854775808 ≤ V := by omega
          have q1 : (V : Int) / 9223372036854775808 = 1 := by omega
          clear e1 e2 E1 E2 h63
          go_wp2_with fail
          refine (W0 _ 11 (by omega)).out.mono ?_
          rintro r w1 ⟨v, rfl, hE, m1⟩
          have F := Lib.hid (And.intro hE m1)
          have hsz := HM.out.size
          clear hE m1 d0 d1
          go_wp2
          go_ret2
          exact ⟨v, _, by rw [E1'.out]; rfl, by rw [E2'.out]; exact F.out.1, fun x hx => by simp at hx; omega, HM.out.trans F.out.2⟩
        · have e1 := E1.out
          have e2 := E2.out
          rw [if_neg h63] at e1 e2
          have E1' := Lib.hid e1
          have E2' := Lib.hid e2
          have h63' : V < 9223372036854775808 := by omega
          have q1 : (V : Int) / 9223372036854775808 = 0 := by omega
          clear e1 e2 E1 E2 h63
          go_wp2
          go_ret2
          exact ⟨.nilIface, [], by rw [E1'.out]; rfl, by rw [E2'.out]; exact .nil, by simp, HM.out⟩
end Go.Proofs.YtphcoenooinmfaaDoor
