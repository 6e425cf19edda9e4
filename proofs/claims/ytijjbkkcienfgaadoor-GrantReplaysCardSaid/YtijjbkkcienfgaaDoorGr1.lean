/- The library's slices functions at holds: IndexFunc, ContainsFunc. No condition beyond what stands in each. -/
import Derived.Test.YtijjbkkcienfgaaDoorRefF
import Derived.Test.YtijjbkkcienfgaaDoorBook3
import Derived.Test.YtijjbkkcienfgaaDoorCount
import Derived.Lib.SliceRun
namespace Go.Proofs.YtijjbkkcienfgaaDoor
open Go.RowKit
set_option linter.unusedVariables false
set_option linter.unusedSimpArgs false
attribute [local go_sem ↓] Go.wp_at_zero Go.wp_at_succ

def hAgg (x : HoldT) : Value := .agg #[.int .i64 x.1, .int .i64 x.2.1, .int .i64 x.2.2.1, .int .i64 x.2.2.2]
/-- A predicate on holds, as a function value: what it answers; it may lay blocks. -/
def PredH (w : World) (gw : Nat) (lb : Array Value) (L : List HoldT) (p : HoldT → Bool) : Prop :=
  ∀ x, x ∈ L → ∀ w', Mod [] w w' → Calls Tryd.prog gw (#[.agg #[.int .i64 x.1, .int .i64 x.2.1, .int .i64 x.2.2.1, .int .i64 x.2.2.2]] ++ lb) w' fun e w'' => e = .returned (.bool (p x)) ∧ Mod [] w' w''
def idxV (L : List HoldT) (p : HoldT → Bool) : Int := match L.findIdx? p with
  | some i => i
  | none => -1
theorem idx_at {L : List HoldT} {p : HoldT → Bool} {k : Nat} {x : HoldT} (hk : L[k]? = some x) (hb : ∀ (i : Nat) (y : HoldT), i < k → L[i]? = some y → p y = false) (hx : p x = true) : idxV L p = k := by
  have hlt := (List.getElem?_eq_some_iff.1 hk).1
  have hv := (List.getElem?_eq_some_iff.1 hk).2
  have : L.findIdx? p = some k := by
    rw [List.findIdx?_eq_some_iff_getElem]
    refine ⟨hlt, by rw [hv]; exact hx, fun j hj => ?_⟩
    have := hb j (L[j]'(by omega)) hj (List.getElem?_eq_getElem (by omega))
    simp [this]
  unfold idxV
  rw [this]
theorem idx_no {L : List HoldT} {p : HoldT → Bool} (hb : ∀ (i : Nat) (y : HoldT), L[i]? = some y → p y = false) : idxV L p = -1 := by
  have : L.findIdx? p = none := by
    rw [List.findIdx?_eq_none_iff]
    intro x hx
    obtain ⟨i, hi⟩ := List.getElem?_of_mem hx
    exact hb i x hi
  unfold idxV
  rw [this]
theorem idx_any (L : List HoldT) (p : HoldT → Bool) : decide (0 ≤ idxV L p) = L.any p := by
  unfold idxV
  cases h : L.findIdx? p with
  | none =>
    rw [List.findIdx?_eq_none_iff] at h
    have : L.any p = false := by simpa using h
    simp [this]
  | some i =>
    rw [List.findIdx?_eq_some_iff_getElem] at h
    obtain ⟨h1, h2, _⟩ := h
    have : L.any p = true := List.any_eq_true.2 ⟨_, List.getElem_mem h1, h2⟩
    rw [this]
    simp
set_option maxRecDepth 100000 in
set_option maxHeartbeats 2000000 in
theorem hidx_calls (w : World) (v : Value) (L : List HoldT) (gw : Nat) (lb : Array Value) (p : HoldT → Bool) (hV : Hs w v L) (heg : ∀ args w, (callFunc gw args).run Tryd.prog w = .ok (.enter gw args) w) (hp : PredH w gw lb L p) :
    Calls Tryd.prog 131 #[v, .func (.func gw) #[] lb] w fun e w' => e = .returned (.int .i64 (idxV L p)) ∧ Mod [] w w' := by
  obtain ⟨A, cap, rfl, hc1, hc2, hx⟩ := hV
  have HP := Lib.hid hp
  have HX := Lib.hid hx
  have EG := Lib.hid heg
  obtain ⟨FW, hFW⟩ : ∃ FW : Value, FW = .func (.func gw) #[] lb := ⟨_, rfl⟩
  have HFW := Lib.hid hFW
  obtain ⟨n, hn⟩ : ∃ n, n = L.length := ⟨_, rfl⟩
  rw [← hn] at hx hc2 HX ⊢
  have HN := Lib.hid hn
  rw [← hFW]
  clear hp hx hFW hn heg
  go_enter Tryd.func131, Tryd.ntmps131
  go_wp2
  go_loopw [8] (fun i wr => ∃ k : Nat, k ≤ n ∧ i = .int .i64 k ∧ Mod [] w wr ∧ Hid (∀ (i : Nat) (y : HoldT), i < k → L[i]? = some y → p y = false)) (fun i _ => n - (intOf i).toNat)
  case atStart => exact ⟨0, Nat.zero_le _, rfl, Mod.refl _ _, Lib.hid (fun i y hi => absurd hi (by omega))⟩
  case round =>
    obtain ⟨k, hk, rfl, hM, hb⟩ := hrel
    have HM := Lib.hid hM
    by_cases hlt : k < n
    · have i0 : (0 : Int) ≤ (k : Int) := by omega
      have i1 : (k : Int) < (n : Int) := by omega
      obtain ⟨g, rfl, hcl⟩ := HX.out (by omega)
      obtain ⟨x, hxk⟩ : ∃ x, L[k]? = some x := ⟨_, List.getElem?_eq_getElem (by rw [← HN.out]; exact hlt)⟩
      obtain ⟨y0, y1, y2, y3⟩ := hcl k x hxk
      replace y0 := hM.cell' y0 (by simp)
      replace y1 := hM.cell' y1 (by simp)
      replace y2 := hM.cell' y2 (by simp)
      replace y3 := hM.cell' y3 (by simp)
      have C := Lib.hid (HP.out x (List.mem_of_getElem? hxk) wr hM)
      have HK := Lib.hid hxk
      have hee := EG.out
      subst FW
      clear hM hcl hxk
      cases hpx : p x with
      | true =>
        rw [hpx] at C
        have HPX := Lib.hid hpx
        clear hpx
        go_wp2_with (refine C.out.mono ?_; rintro e w5 ⟨rfl, m5⟩; have M5 := Lib.hid (HM.out.trans m5); clear m5)
        go_ret
        exact ⟨by rw [idx_at HK.out hb.out HPX.out]; rfl, M5.out⟩
      | false =>
        rw [hpx] at C
        have HPX := Lib.hid hpx
        clear hpx
        go_wp2_with (refine C.out.mono ?_; rintro e w5 ⟨rfl, m5⟩; have M5 := Lib.hid (HM.out.trans m5); clear m5)
        go_roundw
        case rel => exact ⟨k + 1, by omega, by go_num, M5.out, Lib.hid (fun i y hi hy => by
          by_cases e : i = k
          · subst e
            rw [HK.out] at hy
            cases hy
            exact HPX.out
          · exact hb.out i y (by omega) hy)⟩
        case measure => simp [intOf]; omega
    · have i1 : ¬ (k : Int) < (n : Int) := by omega
      obtain rfl : k = n := by omega
      clear hM
      go_wp2
      go_ret
      exact ⟨by rw [idx_no (fun i y hy => hb.out i y (by have := (List.getElem?_eq_some_iff.1 hy).1; have := HN.out; omega) hy)]; rfl, HM.out⟩
theorem hany_calls (w : World) (v : Value) (L : List HoldT) (gw : Nat) (lb : Array Value) (p : HoldT → Bool) (hV : Hs w v L) (heg : ∀ args w, (callFunc gw args).run Tryd.prog w = .ok (.enter gw args) w) (hp : PredH w gw lb L p) :
    Calls Tryd.prog 115 #[v, .func (.func gw) #[] lb] w fun e w' => e = .returned (.bool (L.any p)) ∧ Mod [] w w' := by
  have C := Lib.hid (hidx_calls w v L gw lb p hV heg hp)
  have HA := Lib.hid (idx_any L p)
  clear hV heg hp
  generalize idxV L p = z at *
  generalize L.any p = t at *
  cases t with
  | true =>
    have hz : 0 ≤ z := by simpa using HA.out
    go_enter Tryd.func115, Tryd.ntmps115
    go_wp2_with fail
    refine C.out.mono ?_
    rintro e w1 ⟨rfl, m1⟩
    have M1 := Lib.hid m1
    clear m1
    go_wp2
    go_ret
    exact ⟨rfl, M1.out⟩
  | false =>
    have hz : decide (0 ≤ z) = false := HA.out
    go_enter Tryd.func115, Tryd.ntmps115
    go_wp2_with fail
    refine C.out.mono ?_
    rintro e w1 ⟨rfl, m1⟩
    have M1 := Lib.hid m1
    clear m1
    go_wp2
    go_ret
    exact ⟨rfl, M1.out⟩
end Go.Proofs.YtijjbkkcienfgaaDoor
