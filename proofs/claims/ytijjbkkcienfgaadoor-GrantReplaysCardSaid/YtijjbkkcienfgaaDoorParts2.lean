/- A hold, what is left of it when a part is cut, and the hold again: in plain words. No program. -/
import Derived.Test.YtijjbkkcienfgaaDoorSpan7
import Derived.Test.YtijjbkkcienfgaaDoorParts
namespace Go.Proofs.YtijjbkkcienfgaaDoor
set_option linter.unusedVariables false
set_option linter.unusedSimpArgs false

def tO (c x1 x2 m : Nat) : Nat → Nat → Nat := fun d k => if d = c ∧ x1 ≤ k ∧ k < x2 then m else 0
def tH (c x1 p q x2 m : Nat) : Nat → Nat → Nat := fun d k => if d = c ∧ ((x1 ≤ k ∧ k < p) ∨ (q ≤ k ∧ k < x2)) then m else 0
theorem loZ_nat (p : Nat) : loZ p = p := by unfold loZ; omega
theorem nZ_nat (p q : Nat) (h : q ≤ 256) : nZ p q = q - p := by unfold nZ; omega
theorem setT_nat (t : Nat → Nat → Nat) (c a b : Nat) (g : Nat → Nat) (hc : c < 8) (hb : b ≤ 256) : setT t c a b g = setN t c a b g := by
  unfold setT
  rw [if_pos (by simp [inC8]; omega), Int.toNat_natCast, show (max (a : Int) 0).toNat = a by omega, show (min (b : Int) 256).toNat = b by omega]
variable {c x1 x2 p q m : Nat}
theorem list_tO (hc : c < 8) (hx : x1 < x2) (h2 : x2 ≤ 256) (hm : m ≠ 0) : listL (tO c x1 x2 m) = [(x1, x2, c, m)] := by
  unfold listL
  rw [holds_one (c := c) 8 hc (fun d k _ hd _ _ => by unfold tO; rw [if_neg (fun h => hd h.1)]), runs_one hx h2 hm (fun k hk => by simp [tO])]
  simp [rowHolds, holdOf, pAll]
theorem list_tH (hc : c < 8) (hap : x1 ≤ p) (hpq : p < q) (hqb : q ≤ x2) (h2 : x2 ≤ 256) (hm : m ≠ 0) : (listL (tH c x1 p q x2 m)).length = (if x1 < p then 1 else 0) + (if q < x2 then 1 else 0) := by
  unfold listL
  rw [holds_one (c := c) 8 hc (fun d k _ hd _ _ => by unfold tH; rw [if_neg (fun h => hd h.1)]), runs_hole hap hpq hqb h2 hm (fun k hk => by simp [tH])]
  by_cases e1 : x1 < p
  · by_cases e2 : q < x2
    · simp [rowHolds, holdOf, pAll, e1, e2]
    · simp [rowHolds, holdOf, pAll, e1, e2]
  · by_cases e2 : q < x2
    · simp [rowHolds, holdOf, pAll, e1, e2]
    · simp [rowHolds, holdOf, pAll, e1, e2]
theorem put_of {t : Nat → Nat → Nat} (hc : c < 8) (hm : m = 1 ∨ m = 2) (hx : x1 < x2) (h2 : x2 ≤ 256) (hs : someL t x1 x2 (pAg c m) = []) {t' : Nat → Nat → Nat} (ht : upT t x1 x2 c m = t') (hl : (listL t').length ≤ 256) :
    putE t x1 x2 c m = 0 ∧ putT t x1 x2 c m = t' := by
  have e : putE t x1 x2 c m = 0 := by
    unfold putE
    rw [if_neg (by simp [inC8]; omega), if_neg (by omega), if_neg (by omega), if_neg (by omega), if_neg (by omega), hs, ht, if_neg (by simp), if_neg (by omega)]
  exact ⟨e, by unfold putT; rw [if_pos e, ht]⟩
theorem put_first (hc : c < 8) (hm : m = 1 ∨ m = 2) (hx : x1 < x2) (h2 : x2 ≤ 256) : putE (fun _ _ => 0) x1 x2 c m = 0 ∧ putT (fun _ _ => 0) x1 x2 c m = tO c x1 x2 m := by
  refine put_of hc hm hx h2 (holds_none 8 (fun _ _ _ _ _ => rfl)) ?_ (by rw [list_tO hc hx h2 (by omega)]; simp)
  unfold upT
  rw [setT_nat _ _ _ _ _ hc h2]
  funext d k
  unfold setN tO
  rw [Int.toNat_natCast]
  split <;> simp
theorem cut_some (hc : c < 8) (hap : x1 ≤ p) (hpq : p < q) (hqb : q ≤ x2) (h2 : x2 ≤ 256) (hm : m ≠ 0) : someL (tO c x1 x2 m) p q (pOf c) = [(p, q, c, m)] := by
  unfold someL
  rw [loZ_nat, nZ_nat _ _ (by omega), holds_one (c := c) 8 hc (fun d k _ hd _ _ => by unfold tO; rw [if_neg (fun h => hd h.1)])]
  have := runs_piece (f := tO c x1 x2 m c) (lo := p) (s := 0) (e := q - p) (v := m) (by omega) hm (.inl rfl) (fun k h1 h2 => by unfold tO; rw [if_pos (by omega)])
  rw [this, show p + (q - p) = q by omega]
  simp [runsL, rowHolds, holdOf, pOf]
theorem cut_set (hc : c < 8) (hap : x1 ≤ p) (hpq : p < q) (hqb : q ≤ x2) (h2 : x2 ≤ 256) : setT (tO c x1 x2 m) c p q (fun _ => 0) = tH c x1 p q x2 m := by
  rw [setT_nat _ _ _ _ _ hc (by omega)]
  funext d k
  unfold setN tO tH
  by_cases e : d = c
  · by_cases e1 : p ≤ k ∧ k < q
    · rw [if_pos ⟨e, e1⟩]
      show 0 = _
      rw [if_neg (by omega)]
    · rw [if_neg (fun h => e1 h.2)]
      by_cases e2 : x1 ≤ k ∧ k < x2
      · rw [if_pos ⟨e, e2⟩, if_pos ⟨e, by omega⟩]
      · rw [if_neg (fun h => e2 h.2), if_neg (by omega)]
  · rw [if_neg (fun h => e h.1), if_neg (fun h => e h.1), if_neg (fun h => e h.1)]
theorem put_again (hc : c < 8) (hm : m = 1 ∨ m = 2) (hap : x1 ≤ p) (hpq : p < q) (hqb : q ≤ x2) (h2 : x2 ≤ 256) : putE (tH c x1 p q x2 m) p q c m = 0 ∧ putT (tH c x1 p q x2 m) p q c m = tO c x1 x2 m := by
  refine put_of hc hm hpq (by omega) ?_ ?_ (by rw [list_tO hc (by omega) h2 (by omega)]; simp)
  · refine holds_no 8 (fun d k _ _ _ h => ?_)
    have e : d = c := by
      unfold tH at h
      by_cases e : d = c
      · exact e
      · rw [if_neg (fun h => e h.1)] at h
        exact absurd rfl h
    simp [pAg, e]
  · unfold upT
    rw [setT_nat _ _ _ _ _ hc (by omega)]
    funext d k
    unfold setN tO tH
    rw [Int.toNat_natCast]
    by_cases e : d = c
    · by_cases e1 : p ≤ k ∧ k < q
      · rw [if_pos ⟨e, e1⟩, if_neg (by omega), if_pos ⟨e, by omega⟩]
        simp
      · rw [if_neg (fun h => e1 h.2)]
        by_cases e2 : x1 ≤ k ∧ k < x2
        · rw [if_pos ⟨e, by omega⟩, if_pos ⟨e, e2⟩]
        · rw [if_neg (by omega), if_neg (fun h => e2 h.2)]
    · rw [if_neg (fun h => e h.1), if_neg (fun h => e h.1), if_neg (fun h => e h.1)]
end Go.Proofs.YtijjbkkcienfgaaDoor
