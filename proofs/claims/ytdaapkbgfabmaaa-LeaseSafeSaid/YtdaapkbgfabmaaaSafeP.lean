/- The plain law of LeaseSafe: a lease that is good is one that the book has. No program, no condition beyond what stands in each. -/
import Derived.Test.YtdaapkbgfabmaaaFairP
import Derived.Test.YtdaapkbgfabmaaaFair
import Derived.Test.YtdaapkbgfabmaaaBook2
import Derived.Test.YtdaapkbgfabmaaaOwn
namespace Go.Proofs.Ytdaapkbgfabmaaa
open Go.RowKit
set_option linter.unusedVariables false
set_option linter.unusedSimpArgs false

theorem margV_mul (l d s : Int) (hl : 0 ≤ l) (hl2 : l ≤ 1099511627776) (hs : clampV s 1048576 ≤ l) : (100 + clampV d 1000) * margV l d s ≤ 100 * l - 100 * clampV s 1048576 := by
  have h3 := clampV_bd d 1000 (by omega)
  have e : clampV l 1099511627776 = l := by unfold clampV; omega
  unfold margV
  rw [e, Int.tdiv_eq_ediv_of_nonneg (by omega)]
  have h1 : 0 ≤ 100 * (l - clampV s 1048576) / (100 + clampV d 1000) := Int.ediv_nonneg (by omega) (by omega)
  rw [show max 0 (100 * (l - clampV s 1048576) / (100 + clampV d 1000)) = 100 * (l - clampV s 1048576) / (100 + clampV d 1000) by omega]
  have := Int.mul_ediv_self_le (x := 100 * (l - clampV s 1048576)) (k := 100 + clampV d 1000) (by omega)
  omega
theorem margin_law {rw : Nat → Nat → Int} {m : Nat} {l d s : Int} (h : ∀ t a, t < m → a ≤ t → badB rw 2 (clampV d 1000) (clampV s 1048576) a t = false)
    (hl : 0 ≤ l) (hl2 : l ≤ 1099511627776) (hs : clampV s 1048576 ≤ l) (a b : Nat) (hb : b < m) (hab : a ≤ b) (h0 : sumW rw a (b + 1 - a) 0 ≤ margV l d s) : sumW rw a (b + 1 - a) 1 ≤ l := by
  have h1 := margV_mul l d s hl hl2 hs
  have h3 := clampV_bd d 1000 (by omega)
  have h2 : ¬ 100 * sumW rw a (b + 1 - a) 1 > (100 + clampV d 1000) * sumW rw a (b + 1 - a) 0 + 100 * clampV s 1048576 := fun hh => badB_no.1 (h b a hb hab) ⟨1, 0, by omega, by omega, hh⟩
  have h4 : (100 + clampV d 1000) * sumW rw a (b + 1 - a) 0 ≤ (100 + clampV d 1000) * margV l d s := Int.mul_le_mul_of_nonneg_left h0 (by omega)
  omega

theorem sumW_add (rw : Nat → Nat → Int) (a j : Nat) : ∀ n, sumW rw 0 (a + n) j = sumW rw 0 a j + sumW rw a n j
  | 0 => by simp [sumW]
  | n + 1 => by
    have := sumW_add rw a j n
    rw [← Nat.add_assoc]
    simp only [sumW, this, Nat.zero_add]
    omega
/-- How far clock j has gone on in the first i rows. -/
def SM (x : Nat → Nat → Int) (j i : Nat) : Int := sumW (rwOf (fun _ => 2) x) 0 i j
theorem SM_mono (x : Nat → Nat → Int) (j : Nat) {i i' : Nat} (h : i ≤ i') : SM x j i ≤ SM x j i' := by
  have h1 := sumW_add (rwOf (fun _ => 2) x) i j (i' - i)
  have h2 := (sumW_bd (rwOf_ok (fun _ => 2) x) i j (i' - i)).1
  rw [show i + (i' - i) = i' by omega] at h1
  unfold SM
  omega
theorem SM_zero (x : Nat → Nat → Int) (j : Nat) : SM x j 0 = 0 := rfl
theorem SM_succ (x : Nat → Nat → Int) (j i : Nat) (hj : j < 2) (h : 0 ≤ x i j ∧ x i j ≤ 255) : SM x j (i + 1) = SM x j i + x i j := by
  have e : rwOf (fun _ => 2) x (0 + i) j = x i j := by
    unfold rwOf
    rw [if_pos hj, Nat.zero_add]
    unfold clampV
    omega
  show sumW _ 0 i j + rwOf (fun _ => 2) x (0 + i) j = _
  rw [e]
  rfl
theorem SM_bd (x : Nat → Nat → Int) (j i : Nat) : 0 ≤ SM x j i ∧ SM x j i ≤ i * 1048576 := sumW_bd (rwOf_ok (fun _ => 2) x) 0 j i

/-- What stands after i rows: asked numbers, what was heard of them, what the lease and the book come to. -/
structure LS (x : Nat → Nat → Int) (num slack len : Int) (i c : Nat) (asked : Int) (u : Nat → Int) (d : Nat → Bool) (a : Nat → Int) (last got till : Int) (L : List Int) : Prop where
  la : last = asked
  a0 : 0 ≤ asked
  ai : asked ≤ c
  rr : ∃ rr : Int → Nat, (∀ n, 1 ≤ n → n ≤ asked → rr n < i ∧ (asked - 16 < n → a (n % 16).toNat = SM x 0 (rr n + 1))) ∧ (∀ n, n ∈ L → 1 ≤ n ∧ n ≤ asked ∧ SM x 1 (rr n + 1) + len ≤ u 3)
  tl : till = -1 ∨ ∃ r, r < i ∧ till ≤ SM x 0 (r + 1) + margV len num slack ∧ SM x 1 (r + 1) + len ≤ u 3
  dd : d 3 = true → u 3 < SM x 1 i
namespace LS
variable {x : Nat → Nat → Int} {num slack len : Int} {i c : Nat} {asked : Int} {u : Nat → Int} {d : Nat → Bool} {a : Nat → Int} {last got till : Int} {L : List Int}
theorem more (h : LS x num slack len i c asked u d a last got till L) {c' : Nat} (hc : c ≤ c') : LS x num slack len i c' asked u d a last got till L := ⟨h.la, h.a0, by have := h.ai; omega, h.rr, h.tl, h.dd⟩
theorem new (x : Nat → Nat → Int) (num slack len : Int) : LS x num slack len 0 0 0 u0 d0 (fun _ => 0) 0 0 (-1) [] :=
  ⟨rfl, by omega, by omega, ⟨fun _ => 0, fun n h1 h2 => absurd h1 (by omega), fun n h => by simp at h⟩, .inl rfl, fun h => by simp [d0] at h⟩
theorem sweep (h : LS x num slack len i c asked u d a last got till L) : LS x num slack len (i + 1) c asked u (swD u d (SM x 1 (i + 1)) 8) a last got till L := by
  obtain ⟨rr, h1, h2⟩ := h.rr
  refine ⟨h.la, h.a0, h.ai, ⟨rr, fun n e1 e2 => ⟨by have := (h1 n e1 e2).1; omega, (h1 n e1 e2).2⟩, h2⟩, ?_, fun hd => ?_⟩
  · rcases h.tl with e | ⟨r, e1, e2⟩
    · exact .inl e
    · exact .inr ⟨r, by omega, e2⟩
  · have hm := SM_mono x 1 (show i ≤ i + 1 by omega)
    unfold swD at hd
    split at hd
    · next hs =>
      have hs := hs.2
      unfold swB at hs
      simp only [Bool.and_eq_true, decide_eq_true_eq] at hs
      exact hs.1.2
    · have := h.dd hd
      omega
theorem ok (h : LS x num slack len (i + 1) c asked u d a last got till L) {m : Nat} (hf : ∀ t a, t < m → a ≤ t → badB (rwOf (fun _ => 2) x) 2 (clampV num 1000) (clampV slack 1048576) a t = false)
    (hl : 0 ≤ len) (hl2 : len ≤ 1099511627776) (hs : clampV slack 1048576 ≤ len) (him : i < m) (hg : SM x 0 (i + 1) ≤ till) : d 3 = false ∧ SM x 1 (i + 1) ≤ u 3 := by
  have h0 := (SM_bd x 0 (i + 1)).1
  rcases h.tl with e | ⟨r, e1, e2, e3⟩
  · omega
  have key : SM x 1 (i + 1) ≤ u 3 := by
    by_cases er : r = i
    · subst er; omega
    have k0 := sumW_add (rwOf (fun _ => 2) x) (r + 1) 0 (i - r)
    have k1 := sumW_add (rwOf (fun _ => 2) x) (r + 1) 1 (i - r)
    rw [show r + 1 + (i - r) = i + 1 by omega] at k0 k1
    have hm := margin_law hf hl hl2 hs (r + 1) i him (by omega) (by
      rw [show i + 1 - (r + 1) = i - r by omega]
      unfold SM at *
      omega)
    rw [show i + 1 - (r + 1) = i - r by omega] at hm
    unfold SM at *
    omega
  refine ⟨?_, key⟩
  cases hd : d 3 with
  | false => rfl
  | true => have := h.dd hd; omega
theorem asks (h : LS x num slack len (i + 1) i asked u d a last got till L) : LS x num slack len (i + 1) (i + 1) (asked + 1) u d (upd a ((asked + 1) % 16).toNat (SM x 0 (i + 1))) (last + 1) got till L := by
  obtain ⟨rr, h1, h2⟩ := h.rr
  have ha0 := h.a0
  refine ⟨by rw [h.la], by have := h.a0; omega, by have := h.ai; omega, ⟨fun n => if n = asked + 1 then i else rr n, fun n e1 e2 => ?_, fun n hn => ?_⟩, h.tl, h.dd⟩
  · by_cases e : n = asked + 1
    · subst e
      simp [upd]
    · have h3 := h1 n e1 (by omega)
      simp only [if_neg e]
      refine ⟨h3.1, fun e4 => ?_⟩
      have h4 := h3.2 (by omega)
      unfold upd
      rw [if_neg (by omega)]
      exact h4
  · have h3 := h2 n hn
    have e : n ≠ asked + 1 := by omega
    simp only [if_neg e]
    exact ⟨h3.1, by omega, h3.2.2⟩
/-- A renewal that the book takes. -/
theorem renewed (h : LS x num slack len (i + 1) c asked u d a last got till L) (n : Int) (n1 : 1 ≤ n) (n2 : n ≤ asked) (hd : d 3 = false) :
    LS x num slack len (i + 1) c asked (upd u 3 (max (u 3) (SM x 1 (i + 1) + len))) d a last got till (L ++ [n]) := by
  obtain ⟨rr, h1, h2⟩ := h.rr
  have hu : (upd u 3 (max (u 3) (SM x 1 (i + 1) + len))) 3 = max (u 3) (SM x 1 (i + 1) + len) := by simp [upd]
  refine ⟨h.la, h.a0, h.ai, ⟨rr, h1, fun n' hn => ?_⟩, ?_, fun hd' => by rw [hd] at hd'; simp at hd'⟩
  · rw [hu]
    rcases List.mem_append.1 hn with hn | hn
    · have := h2 n' hn
      exact ⟨this.1, this.2.1, by omega⟩
    · obtain rfl := List.mem_singleton.1 hn
      have := (h1 n' n1 n2).1
      have := SM_mono x 1 (show rr n' + 1 ≤ i + 1 by omega)
      exact ⟨n1, n2, by omega⟩
  · rcases h.tl with e | ⟨r, e1, e2, e3⟩
    · exact .inl e
    · exact .inr ⟨r, e1, e2, by rw [hu]; omega⟩
theorem renews (h : LS x num slack len (i + 1) c asked u d a last got till L) {s : Nat → Int} (n : Int) (n1 : 1 ≤ n) (n2 : n ≤ asked) :
    LS x num slack len (i + 1) c asked (renewU u s d 3 n (SM x 1 (i + 1)) len) d a last got till (if renewE s d 3 n (SM x 1 (i + 1)) len = 0 then L ++ [n] else L) := by
  unfold Go.Proofs.Ytdaapkbgfabmaaa.renewU
  by_cases e : renewE s d 3 n (SM x 1 (i + 1)) len = 0
  · rw [if_pos e, if_pos e]
    refine h.renewed n n1 n2 ?_
    cases hd : d 3 with
    | false => rfl
    | true =>
      exfalso
      have hd' : d (3 : Int).toNat = true := hd
      revert e
      unfold renewE
      rw [hd']
      simp only [if_true]
      repeat' split
      all_goals simp
  · rw [if_neg e, if_neg e]
    exact h
/-- An answer that is heard. -/
theorem hear (h : LS x num slack len i c asked u d a last got till L) (n : Int) (hn : n ∈ L) :
    LS x num slack len i c asked u d a last (gotG last got n len) (gotT a last got till n len num slack) L := by
  refine ⟨h.la, h.a0, h.ai, h.rr, ?_, h.dd⟩
  obtain ⟨rr, h1, h2⟩ := h.rr
  have h3 := h2 n hn
  have h4 := h1 n h3.1 h3.2.1
  unfold gotT
  by_cases e : gotE last got n len = 0
  · rw [if_pos e]
    have e' : last - 16 < n := by
      revert e
      unfold gotE
      repeat' split
      all_goals first | (intro; omega) | (intro h; exact absurd h (by decide))
    rw [h.la] at e'
    rw [h4.2 e']
    rcases h.tl with k | ⟨r, k1, k2, k3⟩
    · exact .inr ⟨rr n, h4.1, by have := (SM_bd x 0 (rr n + 1)).1; have := (margV_bd len num slack).1; omega, h3.2.2⟩
    · by_cases k : till ≤ SM x 0 (rr n + 1) + margV len num slack
      · exact .inr ⟨rr n, h4.1, by omega, h3.2.2⟩
      · exact .inr ⟨r, k1, by omega, k3⟩
  · rw [if_neg e]
    exact h.tl
end LS
end Go.Proofs.Ytdaapkbgfabmaaa
