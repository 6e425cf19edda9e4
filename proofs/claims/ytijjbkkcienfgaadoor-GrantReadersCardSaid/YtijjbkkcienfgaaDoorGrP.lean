/- What the service's answers tell, plain: holds apart, numbers rising. No program in sight; no condition beyond what stands in each. -/
import Derived.Test.YtijjbkkcienfgaaDoorGr24
import Derived.Test.YtijjbkkcienfgaaDoorCount
namespace Go.Proofs.YtijjbkkcienfgaaDoor
set_option linter.unusedVariables false
set_option linter.unusedSimpArgs false

/-- The holds are apart; modes are at most 2. -/
structure PInv (x : GS) : Prop where
  ap : Apart x.t
  bd : ∀ c k, x.t c k ≤ 2
theorem putT_bd {t : Nat → Nat → Nat} (hb : ∀ c k, t c k ≤ 2) (a b c m : Int) : ∀ d k, putT t a b c m d k ≤ 2 := by
  unfold putT
  split
  · rename_i h
    have hm := (putE_ok h).2.1
    exact setT_bd hb c a b (fun x hx => by have : m.toNat ≤ 2 := by omega
                                           exact Nat.max_le.2 ⟨hx, this⟩)
  · exact hb
theorem pinv_fold : ∀ (l : List HoldT) (v : SrvT), (Apart v.t ∧ ∀ c k, v.t c k ≤ 2) → (Apart (l.foldl srvStep v).t ∧ ∀ c k, (l.foldl srvStep v).t c k ≤ 2)
  | [], v, h => h
  | y :: l, v, h => by
    refine pinv_fold l (srvStep v y) ?_
    unfold srvStep
    split
    · exact ⟨apart_put h.1 h.2 _ _ _ _, putT_bd h.2 _ _ _ _⟩
    · exact h
theorem pinv_served {x : GS} (h : PInv x) : PInv x.served := by
  obtain ⟨h1, h2⟩ := pinv_fold x.wl x.srv0 ⟨h.ap, h.bd⟩
  exact ⟨h1, h2⟩
theorem pinv_t {x y : GS} (h : PInv x) (e : y.t = x.t) : PInv y := ⟨by rw [e]; exact h.ap, by rw [e]; exact h.bd⟩
theorem pinv_cut {x : GS} (h : PInv x) (c a b : Int) (g : Nat → Nat) (g0 : g 0 = 0) (g2 : ∀ m, g m = 2 → m = 2) (g3 : ∀ m, m ≤ 2 → g m ≤ 2) {y : GS} (e : y.t = setT x.t c a b g) : PInv y :=
  ⟨by rw [e]; exact apart_set h.ap c a b g0 g2, by rw [e]; exact setT_bd h.bd c a b g3⟩
theorem pinv_serve {x : GS} (h : PInv x) (z : List Nat) : PInv (x.serve z).1 := pinv_served h
theorem pinv_do {x : GS} (h : PInv x) (c : CmdT) : PInv (x.Do c).1 := by
  unfold GS.Do
  split
  · unfold GS.ask
    split
    · exact h
    split
    · exact h
    split
    · exact h
    split
    · exact h
    split
    · exact h
    split
    · split
      · exact ⟨apart_put h.ap h.bd _ _ _ _, putT_bd h.bd _ _ _ _⟩
      · exact h
    · split
      · exact h
      · exact pinv_t h rfl
  split
  · unfold GS.release
    split
    · exact h
    · refine pinv_serve ?_ _
      exact pinv_cut h c.c c.a c.b (fun _ => 0) rfl (fun m e => by cases e) (fun m _ => by omega) rfl
  split
  · unfold GS.weaken
    split
    · exact h
    · refine pinv_serve ?_ _
      exact pinv_cut h c.c c.a c.b (fun m => min m 1) rfl (fun m e => by have e : min m 1 = 2 := e; omega) (fun m _ => by show min m 1 ≤ 2; omega) rfl
  split
  · exact pinv_t h rfl
  split
  · refine pinv_serve ?_ _
    exact pinv_t h rfl
  split
  · unfold GS.recover
    split
    · exact h
    split
    · exact h
    · exact pinv_t h rfl
  split
  · unfold GS.done
    split
    · exact h
    split
    · exact h
    · refine pinv_serve ?_ _
      exact pinv_cut h c.o 0 256 (fun _ => 0) rfl (fun m e => by cases e) (fun m _ => by omega) rfl
  split
  · unfold GS.cancel
    split
    · exact h
    split
    · exact h
    · refine pinv_serve ?_ _
      exact pinv_t h rfl
  · exact h
theorem pinv_new : PInv GS.new := ⟨apart_zero, fun _ _ => Nat.zero_le _⟩
theorem pinv_bg : ∀ k, PInv (bg k)
  | 0 => pinv_new
  | k + 1 => pinv_do (pinv_bg k) _
theorem pinv_run {x : GS} (h : PInv x) (f : Nat → Nat → Value) : ∀ k, PInv (runC x f k)
  | 0 => h
  | k + 1 => pinv_do (pinv_run h f k) _
/-- Two holds of a list of holds do not clash. -/
theorem no_clash {x : GS} (h : PInv x) {i k : Nat} {a b : HoldT} (hki : k < i) (ha : (listL x.t)[k]? = some a) (hb : (listL x.t)[i]? = some b) : clashB b a = false := by
  have hA := pair_at hki ha hb
  by_cases hm : max b.1 a.1 < min b.2.1 a.2.1
  · obtain ⟨h1, h2, h3⟩ := apart_pair h.ap (List.mem_of_getElem? ha) (List.mem_of_getElem? hb) hA (by omega)
    rw [clashB_k h1 hm]
    simp [h2, h3]
  · exact clashB_m hm
/-- Two that wait are two clients. -/
theorem no_twice {x : GS} (h : GInv x) {i k : Nat} {a b : HoldT} (hki : k < i) (ha : x.wl[k]? = some a) (hb : x.wl[i]? = some b) : b.2.2.1 ≠ a.2.2.1 := by
  have hp := List.pairwise_map.1 (List.nodup_iff_pairwise_ne.1 h.one)
  have hi := (List.getElem?_eq_some_iff.1 hb)
  have hk := (List.getElem?_eq_some_iff.1 ha)
  obtain ⟨hi1, hi2⟩ := hi
  obtain ⟨hk1, hk2⟩ := hk
  have := List.pairwise_iff_getElem.1 hp k i hk1 hi1 hki
  rw [hi2, hk2] at this
  exact Ne.symm this
/-- The numbers of what is given while serving. -/
def Nums (n : Nat) (g : List (Nat × HoldT)) : Prop := ∀ k h, g[k]? = some h → h.1 = n + k + 1
theorem nums_fold {n : Nat} : ∀ (l : List HoldT) (v : SrvT), v.last = n + v.out.length → Nums n v.out → (l.foldl srvStep v).last = n + (l.foldl srvStep v).out.length ∧ Nums n (l.foldl srvStep v).out
  | [], v, h1, h2 => ⟨h1, h2⟩
  | y :: l, v, h1, h2 => by
    refine nums_fold l (srvStep v y) ?_ ?_
    · unfold srvStep
      split
      · simp only [List.length_append, List.length_cons, List.length_nil]
        omega
      · exact h1
    · unfold srvStep
      split
      · intro k h hk
        simp only [List.getElem?_append] at hk
        split at hk
        · exact h2 k h hk
        · rename_i hl
          have hk0 : k - v.out.length = 0 := by
            have := (List.getElem?_eq_some_iff.1 hk).1
            simp at this
            omega
          rw [hk0] at hk
          simp at hk
          rw [← hk]
          show v.last + 1 = _
          omega
      · exact h2
theorem nums_srv (x : GS) : x.srv.last = x.last + x.srv.out.length ∧ Nums x.last x.srv.out :=
  nums_fold x.wl x.srv0 rfl (fun k h hk => by simp [GS.srv0] at hk)
theorem nums_nil (n : Nat) : Nums n [] := fun k h hk => by simp at hk
theorem nums_ask (x : GS) (c : CmdT) : (x.ask c).2.g = [] ∧ ((x.ask c).2.e = 0 → (x.ask c).2.n = x.last + 1 ∧ (x.ask c).1.last = x.last + 1) ∧ ((x.ask c).2.e ≠ 0 → (x.ask c).1.last = x.last) := by
  unfold GS.ask
  split
  · exact ⟨rfl, fun h => absurd h (by simp [GA.err]), fun _ => rfl⟩
  split
  · exact ⟨rfl, fun h => absurd h (by simp [GA.err]), fun _ => rfl⟩
  split
  · exact ⟨rfl, fun h => absurd h (by simp [GA.err]), fun _ => rfl⟩
  split
  · exact ⟨rfl, fun h => absurd h (by simp [GA.err]), fun _ => rfl⟩
  split
  · exact ⟨rfl, fun h => absurd h (by simp [GA.err]), fun _ => rfl⟩
  split
  · split
    · exact ⟨rfl, fun _ => ⟨rfl, rfl⟩, fun h => absurd rfl h⟩
    · rename_i h
      exact ⟨rfl, fun e => absurd e h, fun _ => rfl⟩
  · split
    · exact ⟨rfl, fun h => absurd h (by simp [GA.err]), fun _ => rfl⟩
    · exact ⟨rfl, fun h => absurd h (by simp [GA.err]), fun _ => rfl⟩
theorem nums_do (x : GS) {c : CmdT} (hk : c.k ≠ 1) : (x.Do c).1.last = x.last + (x.Do c).2.g.length ∧ Nums x.last (x.Do c).2.g := by
  unfold GS.Do
  rw [if_neg hk]
  have same : ∀ e, ((x, GA.err e) : GS × GA).1.last = x.last + ((x, GA.err e) : GS × GA).2.g.length ∧ Nums x.last ((x, GA.err e) : GS × GA).2.g := fun e => ⟨rfl, nums_nil _⟩
  have serve : ∀ (y : GS) z, y.last = x.last → (y.serve z).1.last = x.last + (y.serve z).2.g.length ∧ Nums x.last (y.serve z).2.g := fun y z e => by
    rw [← e]
    exact nums_srv y
  split
  · unfold GS.release
    split
    · exact same 1
    · exact serve _ _ rfl
  split
  · unfold GS.weaken
    split
    · exact same 1
    · exact serve _ _ rfl
  split
  · exact ⟨rfl, nums_nil _⟩
  split
  · exact serve _ _ rfl
  split
  · unfold GS.recover
    split
    · exact same _
    split
    · exact same _
    · exact ⟨rfl, nums_nil _⟩
  split
  · unfold GS.done
    split
    · exact same _
    split
    · exact same _
    · exact serve _ _ rfl
  split
  · unfold GS.cancel
    split
    · exact same _
    split
    · exact same _
    · exact serve _ _ rfl
  · exact same 1
/-- All numbers at once. -/
theorem nums_all (x : GS) (c : CmdT) (q : Bool) (hq : q = (decide (c.k = 1) && decide ((x.Do c).2.e = 0))) : (x.Do c).1.last = x.last + (if q = true then 1 else 0) + (x.Do c).2.g.length ∧ (q = true → (x.Do c).2.n = x.last + 1) ∧
    ∀ k h, (x.Do c).2.g[k]? = some h → h.1 = x.last + (if q = true then 1 else 0) + k + 1 := by
  by_cases hk : c.k = 1
  · have e : x.Do c = x.ask c := by simp [GS.Do, hk]
    rw [e] at hq ⊢
    obtain ⟨h1, h2, h3⟩ := nums_ask x c
    rw [h1]
    by_cases he : (x.ask c).2.e = 0
    · have : q = true := by rw [hq]; simp [hk, he]
      subst this
      obtain ⟨a, b⟩ := h2 he
      exact ⟨by simp [b], fun _ => a, fun k h hh => by simp at hh⟩
    · have : q = false := by rw [hq]; simp [he]
      subst this
      exact ⟨by simp [h3 he], (fun h => by cases h), fun k h hh => by simp at hh⟩
  · have : q = false := by rw [hq]; simp [hk]
    subst this
    obtain ⟨h1, h2⟩ := nums_do x hk
    exact ⟨by simpa using h1, (fun h => by cases h), fun k h hh => by simpa using h2 k h hh⟩
theorem bg_last : (bg 4).last = 0 := by decide +kernel
theorem gcells_get : ∀ (L : List (Nat × HoldT)) (i : Nat) (h : Nat × HoldT), L[i]? = some h → ∀ (j : Nat) (v : Value), (gcell h)[j]? = some v → (gcells L)[i * 5 + j]? = some v
  | [], i, h, hi, j, v, hj => by simp at hi
  | a :: L, i, h, hi, j, v, hj => by
    show (gcell a ++ gcells L)[i * 5 + j]? = some v
    have hl : (gcell a).length = 5 := rfl
    cases i with
    | zero =>
      simp at hi
      subst hi
      rw [List.getElem?_append_left (by have := (List.getElem?_eq_some_iff.1 hj).1; omega), Nat.zero_mul, Nat.zero_add]
      exact hj
    | succ i =>
      rw [List.getElem?_append_right (by omega), hl, show (i + 1) * 5 + j - 5 = i * 5 + j by omega]
      exact gcells_get L i h (by simpa using hi) j v hj
theorem own_grants {w : World} {base n : Nat} {e : TypeId} {p : Option Addr} {cap : Nat} {L : List (Nat × HoldT)} (h : w.ownsRow base e 5 (.slice p n cap) n (gcells L)) (hn : n = L.length) :
    n ≤ cap ∧ cap ≤ 9223372036854775807 ∧ (0 < n → ∃ g, p = some ⟨g, 0, none⟩ ∧ base ≤ g ∧ ∀ i x, L[i]? = some x → w.cell? ⟨g, i * 5, none⟩ = some (.int .i64 (x.1 : Nat)) ∧ w.cell? ⟨g, i * 5 + 1, none⟩ = some (.int .i64 x.2.1) ∧ w.cell? ⟨g, i * 5 + 2, none⟩ = some (.int .i64 x.2.2.1) ∧ w.cell? ⟨g, i * 5 + 3, none⟩ = some (.int .i64 x.2.2.2.1) ∧ w.cell? ⟨g, i * 5 + 4, none⟩ = some (.int .i64 x.2.2.2.2)) := by
  obtain ⟨h1, ⟨h2, h3⟩ | ⟨g, cap', cur, e1, hg, hh, hc, hm, hs, hx⟩⟩ := id h
  · injection h2 with a b c
    subst c
    exact ⟨by omega, by omega, fun hh => by omega⟩
  · injection e1 with a b c
    subst a c
    refine ⟨hc, by unfold maxLen at hm; omega, fun _ => ⟨g, rfl, hg, fun i x hx2 => ?_⟩⟩
    have key : ∀ j v, (gcell x)[j]? = some v → w.cell? ⟨g, i * 5 + j, none⟩ = some v := fun j v hj => (own_cell h (gcells_get L i x hx2 j v hj)).1
    exact ⟨key 0 _ rfl, key 1 _ rfl, key 2 _ rfl, key 3 _ rfl, key 4 _ rfl⟩
end Go.Proofs.YtijjbkkcienfgaaDoor
