/- The law's comparison of an error with the document's fault; which inputs are too heavy. Premise: the error and the fault have one chain. -/
import Derived.Test.YthcbhdadbohkjaaDoorRWtr2
import Derived.Test.YthcbhdadbohkjaaDoorRow
namespace Go.Proofs.YthcbhdadbohkjaaDoor
open Go.RowKit
set_option linter.unusedVariables false
set_option linter.unusedSimpArgs false
attribute [local go_sem ↓] Go.wp_at_zero Go.wp_at_succ

set_option maxHeartbeats 4000000 in
theorem alike_calls (w : World) (v f : Value) (l : List Int) (E E2 : List Nat) (hE : Errs w v l E) (hR : RF w f l E2) (hT : ErrT w) (hl : l.length ≤ 1000) :
    Calls Tryd.prog 26 #[v, f] w fun r w' => r = .returned (.bool true) ∧ Mod [] w w' := by
  have HR := Lib.hid hR
  obtain ⟨sv, a, rfl, ho, hg⟩ := hR
  obtain ⟨A, cap, rfl, _⟩ := (own_slA ho).ex
  obtain ⟨w0, hw0⟩ : ∃ w0, w0 = w.alloc (.cells #[.slice A l.length cap, .int .i64 a] 53) := ⟨_, rfl⟩
  have HW0 := Lib.hid hw0
  have m0 : Mod [] w w0 := by rw [hw0]; exact (Mod.refl _ _).alloc _
  have hA : Arr w0 w.heap.size 53 2 (fun i => if i = 0 then .slice A l.length cap else .int .i64 a) := by
    rw [hw0]
    exact Arr.new' w _ _ 2 _ rfl (fun i hi => by
      match i, hi with
      | 0, _ => rfl
      | 1, _ => rfl)
  have M0 := Lib.hid m0.drew
  have C1 := Lib.hid (code_calls w0.drew v l E (hE.mod0 m0.drew) (hT.mod m0.drew (by simp)) hl)
  have C2 := Lib.hid (fun w1 (m1 : Mod [] w0.drew w1) => rcode_calls w1 _ l E2 (HR.out.mod0 (m0.drew.trans m1)) hl)
  have C3 := Lib.hid (fun w1 (m1 : Mod [] w0.drew w1) => chain_calls w1 v l E (hE.mod0 (m0.drew.trans m1)) (hT.mod (m0.drew.trans m1) (by simp)) hl)
  have C4 := Lib.hid (fun w1 (m1 : Mod [] w0.drew w1) vl (h1 : w1.ownsRow 0 35 1 vl l.length (ints l)) => same_calls w1 vl _ l 0 0 h1 (own_mod ho (m0.drew.trans m1) (by simp)) hl)
  have c0 : w0.drew.cell? ⟨w.heap.size, 0, none⟩ = some (.slice A l.length cap) := hA.cell 0 (by omega)
  have c1 : w0.drew.cell? ⟨w.heap.size, 1, none⟩ = some (.int .i64 a) := hA.cell 1 (by omega)
  have KS := Lib.hid (show ∀ w', Mod [] w0.drew w' → w'.cell? ⟨w.heap.size, 0, none⟩ = some (.slice A l.length cap) ∧ w'.cell? ⟨w.heap.size, 1, none⟩ = some (.int .i64 a) from fun w' m => ⟨m.cell' c0 (by simp), m.cell' c1 (by simp)⟩)
  obtain ⟨hd, hhd⟩ : ∃ hd, hd = l.headD 0 := ⟨_, rfl⟩
  rw [← hhd] at C1 C2
  clear hE hT ho hg hA m0 hw0 HR hhd
  go_enter Tryd.func26, Tryd.ntmps26
  go_wp2_with fail
  rw [← HW0.out]
  go_region_held3 (fun w' => w'.cell? ⟨w.heap.size, 0, none⟩ = some (.slice A l.length cap) ∧ w'.cell? ⟨w.heap.size, 1, none⟩ = some (.int .i64 a))
    ((refine KS.out _ ?_; with_reducible first
      | exact Mod.refl _ _
      | exact m1
      | exact m12
      | exact m123
      | exact m1234))
    (first
      | (go_at_call 22; refine C1.out.mono ?_; rintro r w1 ⟨rfl, m1⟩)
      | (go_at_call 40; refine (C2.out _ m1).mono ?_; rintro r w2 ⟨rfl, m2⟩; have m12 := m1.trans m2)
      | (go_at_call 39; refine (C3.out _ m12).mono ?_; rintro r w3 ⟨vl, rfl, ho3, m3⟩; have m123 := m12.trans m3)
      | (go_at_call 46; refine (C4.out _ m123 _ (own_base ho3 (Nat.zero_le _))).mono ?_; rintro r w4 ⟨rfl, m4⟩; have m1234 := m123.trans m4))
  have F := Lib.hid (M0.out.trans m1234)
  go_wp2
  go_ret
  exact ⟨rfl, F.out⟩
/-- The weight of the first k steps. -/
def wgt (s : Nat → ByteArray) : Nat → Nat
  | 0 => 0
  | k + 1 => wgt s k + min (s k).size 1048576
theorem wgt_mono (s : Nat → ByteArray) {a b : Nat} (h : a ≤ b) : wgt s a ≤ wgt s b := by
  induction b with
  | zero =>
    obtain rfl : a = 0 := by omega
    exact Nat.le_refl _
  | succ b ih =>
    by_cases e : a = b + 1
    · subst e; exact Nat.le_refl _
    · have := ih (by omega); simp only [wgt]; omega
theorem min_int (a b : Nat) : (if (a : Int) < (b : Int) then Value.int .i64 (a : Int) else Value.int .i64 (b : Int)) = .int .i64 ((min a b : Nat) : Int) := by
  split <;> congr 1 <;> omega
/-- Steps that came in: kind, numbers, text. -/
def stepV (k : Nat → Int) (n : Nat → Int) (c : Nat → Int) (s : Nat → ByteArray) (i j : Nat) : Value := if j = 0 then .int .i64 (k i) else if j = 1 then .int .i64 (n i) else if j = 2 then .int .i64 (c i) else .string (s i)
def HeavyPost (n : Nat) (s : Nat → ByteArray) (r : Ending) : Prop := ∃ b, r = .returned (.bool b) ∧ (b = false → n + wgt s n ≤ 8192)
theorem heavy_calls (w : World) (A : Option Addr) (n cap : Nat) (hc : cap ≤ 9223372036854775807) (hn : n ≤ cap) (s : Nat → ByteArray) (hs : ∀ i, i < n → (s i).size ≤ 9223372036854775807) (hx : 0 < n → ∃ b off, A = some ⟨b, off, none⟩ ∧ ∀ i, i < n → w.cell? ⟨b, off + i * 4 + 3, none⟩ = some (.string (s i))) :
    Calls Tryd.prog 25 #[.slice A n cap] w fun r w' => HeavyPost n s r ∧ w = w' := by
  have HX := Lib.hid hx
  have HS := Lib.hid hs
  clear hx hs
  by_cases h8 : n ≤ 8192
  rotate_left
  · have i1 : (8192 : Int) < (n : Int) := by omega
    have i3 : decide ((n : Int) ≤ 8192) = false := by simp; omega
    have i4 : (0 : Int) < (n : Int) := by omega
    by_cases h20 : n ≤ 1048576
    · have i2 : (n : Int) ≤ 1048576 := by omega
      go_enter Tryd.func25, Tryd.ntmps25
      go_wp2
      go_loop [3, 4] (fun x i => x = .int .i64 n ∧ i = .int .i64 0) (fun _ _ => 0)
      case atStart => exact ⟨rfl, rfl⟩
      case round =>
        obtain ⟨rfl, rfl⟩ := hrel
        go_wp2
        go_ret
        exact ⟨⟨true, rfl, fun h => by cases h⟩, rfl⟩
    · have i2 : (1048576 : Int) < (n : Int) := by omega
      go_enter Tryd.func25, Tryd.ntmps25
      go_wp2
      go_loop [3, 4] (fun x i => x = .int .i64 1048576 ∧ i = .int .i64 0) (fun _ _ => 0)
      case atStart => exact ⟨rfl, rfl⟩
      case round =>
        obtain ⟨rfl, rfl⟩ := hrel
        go_wp2
        go_ret
        exact ⟨⟨true, rfl, fun h => by cases h⟩, rfl⟩
  have h20 : (n : Int) ≤ 1048576 := by omega
  go_enter Tryd.func25, Tryd.ntmps25
  go_wp2
  go_loop [3, 4] (fun x i => ∃ k : Nat, k ≤ n ∧ i = .int .i64 k ∧ x = .int .i64 ((n + wgt s k : Nat) : Int) ∧ n + wgt s k ≤ 1056768) (fun _ i => n - (intOf i).toNat)
  case atStart => exact ⟨0, Nat.zero_le _, rfl, rfl, by simp [wgt]; omega⟩
  case round =>
    obtain ⟨k, hk, rfl, rfl, hb⟩ := hrel
    obtain ⟨x, hx⟩ : ∃ x, x = n + wgt s k := ⟨_, rfl⟩
    have HXX := Lib.hid hx
    rw [← hx] at hb ⊢
    by_cases hlt : k < n
    · have i1 : (k : Int) < (n : Int) := by omega
      have i0 : (0 : Int) ≤ (k : Int) := by omega
      by_cases hle : x ≤ 8192
      · have i2 : decide ((x : Int) ≤ 8192) = true := by simp; omega
        obtain ⟨b, off, rfl, hc3⟩ := HX.out (by omega)
        have c3 := hc3 k hlt
        have hsz := HS.out k hlt
        have hw1 : wgt s (k + 1) = wgt s k + min (s k).size 1048576 := rfl
        have HW1 := Lib.hid hw1
        clear hx hc3 hw1
        by_cases hsm : (s k).size ≤ 1048576
        · have i3 : ((s k).size : Int) ≤ 1048576 := by omega
          go_wp2
          go_round
          case rel => exact ⟨k + 1, by omega, by go_num, by have := HXX.out; have := HW1.out; congr 1; omega, by have := HXX.out; have := HW1.out; omega⟩
          case measure => simp [intOf]; omega
        · have i3 : (1048576 : Int) < ((s k).size : Int) := by omega
          go_wp2
          go_round
          case rel => exact ⟨k + 1, by omega, by go_num, by have := HXX.out; have := HW1.out; congr 1; omega, by have := HXX.out; have := HW1.out; omega⟩
          case measure => simp [intOf]; omega
      · have i2 : decide ((x : Int) ≤ 8192) = false := by simp; omega
        have i3 : decide ((8192 : Int) < (x : Int)) = true := by simp; omega
        clear hx
        go_wp2
        go_ret
        exact ⟨⟨true, rfl, fun h => by cases h⟩, rfl⟩
    · have i1 : ¬ (k : Int) < (n : Int) := by omega
      obtain rfl : k = n := by omega
      clear hx
      by_cases hle : x ≤ 8192
      · have i3 : decide ((8192 : Int) < (x : Int)) = false := by simp; omega
        go_wp2
        go_ret
        exact ⟨⟨false, rfl, fun _ => by have := HXX.out; omega⟩, rfl⟩
      · have i3 : decide ((8192 : Int) < (x : Int)) = true := by simp; omega
        go_wp2
        go_ret
        exact ⟨⟨true, rfl, fun h => by cases h⟩, rfl⟩
end Go.Proofs.YthcbhdadbohkjaaDoor
