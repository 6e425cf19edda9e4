/- What a client has had, dropped, and put back one by one from the end: in plain words. No program. -/
import Derived.Test.YtkajedgghoboaaaDoorCount
namespace Go.Proofs.YtkajedgghoboaaaDoor
set_option linter.unusedVariables false
set_option linter.unusedSimpArgs false

theorem holds_of (t : Nat → Nat → Nat) (c : Nat) : ∀ N, holdsTo t 0 256 (pOf c) N = if c < N then rowHolds pAll c (runsL (t c) 0 256) else []
  | 0 => by simp [holdsTo]
  | N + 1 => by
    rw [holdsTo, holds_of t c N]
    by_cases e : c = N
    · subst e
      rw [if_neg (by omega), if_pos (by omega), List.nil_append]
      unfold rowHolds holdOf
      congr 1
      funext r
      simp [pOf, pAll]
    · have h1 : rowHolds (pOf c) N (runsL (t N) 0 256) = [] := by
        unfold rowHolds
        rw [List.flatMap_eq_nil_iff]
        intro r _
        unfold holdOf
        rw [if_neg (by simp [pOf]; omega)]
      rw [h1, List.append_nil]
      by_cases e2 : c < N
      · rw [if_pos e2, if_pos (by omega)]
      · rw [if_neg e2, if_neg (by omega)]
theorem row_map (c : Nat) (l : List Run) : rowHolds pAll c l = l.map fun r => (r.1, r.2.1, c, r.2.2) := by
  induction l with
  | nil => rfl
  | cons r l ih =>
    show holdOf pAll c r ++ rowHolds pAll c l = _
    rw [ih]
    simp [holdOf, pAll]
/-- The client's holds. -/
theorem drop_list (t : Nat → Nat → Nat) {c : Nat} (hc : c < 8) : someL t 0 256 (pOf c) = (runsL (t c) 0 256).map fun r => (r.1, r.2.1, c, r.2.2) := by
  show holdsTo t 0 256 (pOf c) 8 = _
  rw [holds_of, if_pos hc, row_map]
theorem drop_none (t : Nat → Nat → Nat) : someL t 0 256 (pOf (-1)) = [] := by
  unfold someL
  refine holds_no 8 (fun d k _ _ _ _ => ?_)
  simp [pOf]
/-- The table in which the client's blocks below st are free. -/
def freed (t : Nat → Nat → Nat) (c st : Nat) : Nat → Nat → Nat := setN t c 0 st (fun _ => 0)
theorem freed_at (t : Nat → Nat → Nat) (c st d k : Nat) : freed t c st d k = if d = c ∧ k < st then 0 else t d k := by
  unfold freed setN
  by_cases e : d = c ∧ k < st
  · rw [if_pos ⟨e.1, by omega, e.2⟩, if_pos e]
  · rw [if_neg (fun h => e ⟨h.1, h.2.2⟩), if_neg e]
theorem drop_set (t : Nat → Nat → Nat) {c : Nat} (hc : c < 8) : setT t c 0 256 (fun _ => 0) = freed t c 256 := by
  have := setT_nat t c 0 256 (fun _ => 0) hc (Nat.le_refl _)
  exact this
theorem drop_set_none (t : Nat → Nat → Nat) : setT t (-1) 0 256 (fun _ => 0) = t := by
  unfold setT
  rw [if_neg (by decide)]
theorem left_len (t : Nat → Nat → Nat) (c : Nat) : ∀ N, (holdsTo (freed t c 256) 0 256 pAll N).length + (if c < N then (runsL (t c) 0 256).length else 0) = (holdsTo t 0 256 pAll N).length
  | 0 => by simp [holdsTo]
  | N + 1 => by
    have ih := left_len t c N
    rw [holdsTo, holdsTo, List.length_append, List.length_append]
    by_cases e : c = N
    · subst e
      rw [if_neg (by omega)] at ih
      rw [if_pos (by omega)]
      have h1 : runsL (freed t c 256 c) 0 256 = [] := runs_none (fun k h1 h2 => by rw [freed_at, if_pos ⟨rfl, by omega⟩])
      rw [h1, row_map c (runsL (t c) 0 256), List.length_map]
      show _ + 0 + _ = _
      omega
    · have h1 : freed t c 256 N = t N := by
        funext k
        rw [freed_at, if_neg (fun h => e h.1.symm)]
      rw [h1]
      by_cases e2 : c < N
      · rw [if_pos e2] at ih; rw [if_pos (by omega)]; omega
      · rw [if_neg e2] at ih; rw [if_neg (by omega)]; omega
theorem drop_len (t : Nat → Nat → Nat) {c : Nat} (hc : c < 8) : (listL (freed t c 256)).length + (someL t 0 256 (pOf c)).length = (listL t).length := by
  have := left_len t c 8
  rw [if_pos hc] at this
  rw [drop_list t hc, List.length_map]
  exact this
theorem left_other {t : Nat → Nat → Nat} {c : Nat} {x : HoldT} (hx : x ∈ listL (freed t c 256)) : x.2.2.1 ≠ c := by
  intro e
  have ok := (holds_ok hx).1
  have h1 := ok.all x.1 (Nat.le_refl _) ok.ab
  have h2 := ok.b
  have h3 := ok.ab
  rw [freed_at, if_pos ⟨e, by omega⟩] at h1
  exact ok.m h1.symm
/-- From where on the client's holds from the j-th on lie. -/
def stOf (t : Nat → Nat → Nat) (c j : Nat) : Nat := match (runsL (t c) 0 256)[j]? with
  | some r => r.1
  | none => 256
theorem st_some {t : Nat → Nat → Nat} {c j : Nat} {r : Run} (h : (runsL (t c) 0 256)[j]? = some r) : stOf t c j = r.1 := by unfold stOf; rw [h]
theorem st_none {t : Nat → Nat → Nat} {c j : Nat} (h : (runsL (t c) 0 256).length ≤ j) : stOf t c j = 256 := by unfold stOf; rw [List.getElem?_eq_none h]
theorem run_in {t : Nat → Nat → Nat} {c j : Nat} {r : Run} (h : (runsL (t c) 0 256)[j]? = some r) : RunOk (t c) 0 256 r := runsL_ok 256 r (List.mem_of_getElem? h)
theorem st_le (t : Nat → Nat → Nat) (c j : Nat) : stOf t c j ≤ 256 := by
  cases h : (runsL (t c) 0 256)[j]? with
  | none => unfold stOf; rw [h]; exact Nat.le_refl _
  | some r =>
    rw [st_some h]
    have ok := run_in h
    have := ok.l2
    have := ok.l3
    omega
theorem runs_lt {t : Nat → Nat → Nat} {c i j : Nat} {x y : Run} (hij : i < j) (hx : (runsL (t c) 0 256)[i]? = some x) (hy : (runsL (t c) 0 256)[j]? = some y) : x.2.1 ≤ y.1 := by
  have hp := runsL_rise (f := t c) (lo := 0) 256
  rw [List.pairwise_iff_getElem] at hp
  obtain ⟨h1, rfl⟩ := List.getElem?_eq_some_iff.1 hx
  obtain ⟨h2, rfl⟩ := List.getElem?_eq_some_iff.1 hy
  exact hp i j h1 h2 hij
/-- Between two holds nothing is held. -/
theorem gap_zero {t : Nat → Nat → Nat} {c j k lo : Nat} (hlo : ∀ i x, i < j → (runsL (t c) 0 256)[i]? = some x → x.2.1 ≤ lo) (h1 : lo ≤ k) (h2 : k < stOf t c j) : t c k = 0 := by
  rcases Nat.eq_zero_or_pos (t c k) with h | h
  · exact h
  · exfalso
    have hs := st_le t c j
    obtain ⟨r, hr, h3, h4⟩ := runsL_has (f := t c) (lo := 0) 256 k (Nat.zero_le _) (by omega) (by omega)
    obtain ⟨i, hi⟩ := List.getElem?_of_mem hr
    rcases Nat.lt_trichotomy i j with e | e | e
    · have := hlo i r e hi; omega
    · subst e
      rw [st_some hi] at h2
      omega
    · cases hj : (runsL (t c) 0 256)[j]? with
      | none =>
        rw [List.getElem?_eq_none_iff] at hj
        have : (runsL (t c) 0 256)[i]? = none := List.getElem?_eq_none (by omega)
        rw [this] at hi; cases hi
      | some y =>
        rw [st_some hj] at h2
        have := runs_lt e hj hi
        have := (run_in hj).l2
        omega
theorem st_next {t : Nat → Nat → Nat} {c j : Nat} {r : Run} (h : (runsL (t c) 0 256)[j]? = some r) : r.2.1 ≤ stOf t c (j + 1) := by
  cases hj : (runsL (t c) 0 256)[j + 1]? with
  | none =>
    rw [st_none (List.getElem?_eq_none_iff.1 hj)]
    have := (run_in h).l3
    omega
  | some y =>
    rw [st_some hj]
    exact runs_lt (Nat.lt_succ_self j) h hj
theorem freed_zero (t : Nat → Nat → Nat) (c : Nat) : freed t c (stOf t c 0) = t := by
  funext d k
  rw [freed_at]
  split
  · rename_i h
    obtain ⟨rfl, h⟩ := h
    exact (gap_zero (lo := 0) (j := 0) (fun i x hi => absurd hi (by omega)) (Nat.zero_le _) h).symm
  · rfl
theorem freed_all (t : Nat → Nat → Nat) (c : Nat) : freed t c 256 = freed t c (stOf t c (runsL (t c) 0 256).length) := by rw [st_none (Nat.le_refl _)]
/-- The j-th hold, put back. -/
theorem put_back {t : Nat → Nat → Nat} (ha : Apart t) (hb : ∀ c k, t c k ≤ 2) (hn : turnsT t 8 ≤ 200) {c j : Nat} (hc : c < 8) {r : Run} (hr : (runsL (t c) 0 256)[j]? = some r) :
    putE (freed t c (stOf t c (j + 1))) r.1 r.2.1 c r.2.2 = 0 ∧ putT (freed t c (stOf t c (j + 1))) r.1 r.2.1 c r.2.2 = freed t c (stOf t c j) := by
  have ok := run_in hr
  have hm2 : r.2.2 ≤ 2 := by rw [← ok.l5 r.1 (Nat.le_refl _) ok.l2]; exact hb _ _
  have hs := st_next hr
  have h3 := ok.l3
  have h8 := ok.l2
  refine put_of hc (by have := ok.l4; omega) ok.l2 (by omega) ?_ ?_ ?_
  · unfold someL
    rw [loZ_nat, nZ_nat _ _ (by omega)]
    refine holds_no 8 (fun d k hd h1 h2 hk => ?_)
    rw [freed_at] at hk ⊢
    by_cases e : d = c
    · simp [pAg, e]
    · rw [if_neg (fun h => e h.1)] at hk ⊢
      have e5 := ok.l5 k (by omega) (by omega)
      have h5 : ¬ t d k = 2 := fun h => by
        have := ha d c k hd hc (by omega) e h
        rw [e5] at this
        exact ok.l4 this
      have h6 : ¬ r.2.2 = 2 := fun h => hk (ha c d k hc hd (by omega) (fun x => e x.symm) (by rw [e5, h]))
      have h6' : ¬ ((r.2.2 : Nat) : Int) = 2 := by omega
      simp [pAg, h5, h6']
  · unfold upT
    rw [setT_nat _ _ _ _ _ hc (by omega)]
    rw [st_some hr]
    funext d k
    unfold setN
    rw [freed_at, freed_at, Int.toNat_natCast]
    by_cases e : d = c
    · subst e
      by_cases e1 : r.1 ≤ k ∧ k < r.2.1
      · rw [if_pos ⟨rfl, e1⟩, if_pos ⟨rfl, by omega⟩, if_neg (fun h => by omega), ok.l5 k e1.1 e1.2]
        simp
      · rw [if_neg (fun h => e1 h.2)]
        by_cases e2 : k < r.1
        · rw [if_pos ⟨rfl, by omega⟩, if_pos ⟨rfl, e2⟩]
        · rw [if_neg (fun h : d = d ∧ k < r.1 => e2 h.2)]
          by_cases e3 : k < stOf t d (j + 1)
          · rw [if_pos ⟨rfl, e3⟩]
            refine (gap_zero (lo := r.2.1) (j := j + 1) (fun i x hi hx => ?_) (by omega) e3).symm
            rcases Nat.lt_or_ge i j with h | h
            · have h7 := runs_lt h hx hr
              have := ok.l2
              omega
            · obtain rfl : i = j := by omega
              rw [hr] at hx
              cases hx
              exact Nat.le_refl _
          · rw [if_neg (fun h => e3 h.2)]
    · rw [if_neg (fun h => e h.1), if_neg (fun h => e h.1), if_neg (fun h => e h.1)]
  · have h1 := holds_turns (freed t c (stOf t c j)) 8
    have h2 := turnsT_set t c 0 (stOf t c j) (fun _ => 0) 8
    unfold listL
    unfold freed at h1 ⊢
    omega
end Go.Proofs.YtkajedgghoboaaaDoor
