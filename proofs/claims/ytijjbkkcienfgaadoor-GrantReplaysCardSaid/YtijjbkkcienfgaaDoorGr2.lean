/- The library's slices functions at holds: DeleteFunc, Clone. No condition beyond what stands in each. -/
import Derived.Test.YtijjbkkcienfgaaDoorGr1
namespace Go.Proofs.YtijjbkkcienfgaaDoor
open Go.RowKit
set_option linter.unusedVariables false
set_option linter.unusedSimpArgs false
attribute [local go_sem ↓] Go.wp_at_zero Go.wp_at_succ

/-- A predicate on holds: as 'PredH', in worlds in which blocks of S have changed, too. -/
def PredHS (w : World) (S : List Nat) (gw : Nat) (lb : Array Value) (L : List HoldT) (p : HoldT → Bool) : Prop :=
  ∀ x, x ∈ L → ∀ w', Mod S w w' → Calls Tryd.prog gw (#[.agg #[.int .i64 x.1, .int .i64 x.2.1, .int .i64 x.2.2.1, .int .i64 x.2.2.2]] ++ lb) w' fun e w'' => e = .returned (.bool (p x)) ∧ Mod [] w' w''
theorem PredHS.plain {w : World} {S : List Nat} {gw : Nat} {lb : Array Value} {L : List HoldT} {p : HoldT → Bool} (h : PredHS w S gw lb L p) : PredH w gw lb L p := fun x hx w' m => h x hx w' m.nil
theorem own_take {w : World} {base e sz n j g cap : Nat} {xs : List Value} (h : w.ownsRow base e sz (.slice (some ⟨g, 0, none⟩) n cap) n xs) (hj : j ≤ n) : w.ownsRow base e sz (.slice (some ⟨g, 0, none⟩) j cap) j (xs.take (j * sz)) := by
  obtain ⟨h1, h2 | ⟨g', cap', cur, he, hg, hh, hc, hm, hs, hx⟩⟩ := h
  · cases h2.1
  · cases he
    have hle : j * sz ≤ n * sz := Nat.mul_le_mul_right _ hj
    refine ⟨by rw [List.length_take, h1]; omega, .inr ⟨g, cap, cur, rfl, hg, hh, by omega, hm, hs, ?_⟩⟩
    rw [← hx, List.take_take, Nat.min_eq_left hle]
theorem hcells_take (L : List HoldT) : ∀ j, j ≤ L.length → (hcells L).take (j * 4) = hcells (L.take j) := by
  induction L with
  | nil => intro j hj; simp at hj; subst hj; rfl
  | cons x L ih =>
    intro j hj
    cases j with
    | zero => simp [hcells]
    | succ j =>
      have := ih j (by simpa using hj)
      rw [show (j + 1) * 4 = j * 4 + 4 by omega]
      show (hcell x ++ hcells L).take (j * 4 + 4) = _
      rw [List.take_append, show (hcell x).length = 4 from rfl, Nat.add_sub_cancel, this, List.take_of_length_le (by show 4 ≤ _; omega)]
      rfl
theorem hcells_put (D : List HoldT) : ∀ (j : Nat) (x : HoldT), j < D.length →
    ((((hcells D).set (j * 4) (.int .i64 x.1)).set (j * 4 + 1) (.int .i64 x.2.1)).set (j * 4 + 2) (.int .i64 x.2.2.1)).set (j * 4 + 3) (.int .i64 x.2.2.2) = hcells (D.set j x) := by
  induction D with
  | nil => intro j x hj; simp at hj
  | cons y D ih =>
    intro j x hj
    cases j with
    | zero => rfl
    | succ j =>
      have := ih j x (by simpa using hj)
      rw [List.set_cons_succ]
      show ((((hcell y ++ hcells D).set _ _).set _ _).set _ _).set _ _ = hcell y ++ hcells (D.set j x)
      rw [← this]
      have e : ∀ (l : List Value) (i : Nat) (v : Value), (hcell y ++ l).set (i + 4) v = hcell y ++ l.set i v := fun l i v => by
        rw [List.set_append_right _ _ (by show 4 ≤ _; omega)]
        congr 1
      rw [show (j + 1) * 4 = j * 4 + 4 by omega, show j * 4 + 4 + 1 = (j * 4 + 1) + 4 by omega, show j * 4 + 4 + 2 = (j * 4 + 2) + 4 by omega, show j * 4 + 4 + 3 = (j * 4 + 3) + 4 by omega, e, e, e, e]
theorem run_clear4 (w : World) (ty : TypeId) (b o n c : Nat) (hn : 0 < n) (hc : ∀ j, j < n * 4 → (w.cell? ⟨b, o + j, none⟩).isSome = true) (hf : ∀ j, j < n * 4 → w.frozen? ⟨b, o + j, none⟩ = false) :
    (Builtin.clear_ #[31] ty #[.slice (some ⟨b, o, none⟩) n c]).run Tryd.prog w = .ok (.tuple #[]) (w.setCells b o (Builtin.zeroCells #[.int .i64 0, .int .i64 0, .int .i64 0, .int .i64 0] n).toList) := by
  have hv : ∀ w, (zeroValue 39).run Tryd.prog w = .ok (.agg #[.int .i64 0, .int .i64 0, .int .i64 0, .int .i64 0]) w := fun _ => by kernel_rfl
  have hl : (Builtin.zeroCells #[.int .i64 0, .int .i64 0, .int .i64 0, .int .i64 0] n).toList.length = n * 4 := by simp [Builtin.zeroCells]
  have h1 : ∀ v ∈ (Builtin.zeroCells #[.int .i64 0, .int .i64 0, .int .i64 0, .int .i64 0] n).toList, v.oneCell' = true := by
    intro v hv'
    simp only [Builtin.zeroCells, Array.toList_map, List.mem_map] at hv'
    obtain ⟨i, _, rfl⟩ := hv'
    have hi : i % 4 < 4 := Nat.mod_lt _ (by omega)
    show (#[Value.int .i64 0, Value.int .i64 0, Value.int .i64 0, Value.int .i64 0][i % 4]!).oneCell' = true
    generalize i % 4 = q at *
    match q, hi with
    | 0, _ | 1, _ | 2, _ | 3, _ => rfl
  have hst := run_storeCells_cells (P := Tryd.prog) b o (Builtin.zeroCells #[.int .i64 0, .int .i64 0, .int .i64 0, .int .i64 0] n).toList 0 w (by rw [hl]; simpa using hc) (by rw [hl]; simpa using hf) h1
  simp only [Nat.add_zero] at hst
  obtain ⟨m, rfl⟩ : ∃ m, n = m + 1 := ⟨n - 1, by omega⟩
  simp [Builtin.clear_, run_underlying Tryd.underlying31, hv, Value.cells, hst]
/-- What stands in the row while it is written: the kept ones of the first k, then whatever; from k on what was there. -/
structure DelI (L D : List HoldT) (p : HoldT → Bool) (k j : Nat) : Prop where
  len : D.length = L.length
  done : D.take j = (L.take k).filter (fun x => !p x)
  jk : j ≤ k
  rest : ∀ i, k ≤ i → D[i]? = L[i]?
theorem DelI.keep {L D : List HoldT} {p : HoldT → Bool} {k j : Nat} {x : HoldT} (h : DelI L D p k j) (hk : L[k]? = some x) (hx : p x = false) : DelI L (D.set j x) p (k + 1) (j + 1) := by
  have hlt := (List.getElem?_eq_some_iff.1 hk).1
  have hj : j < D.length := by rw [h.len]; have := h.jk; omega
  refine ⟨by simp [h.len], ?_, by have := h.jk; omega, fun i hi => ?_⟩
  · rw [List.take_succ_eq_append_getElem hlt, List.filter_append, ← h.done, List.take_succ_eq_append_getElem (by simpa using hj)]
    have e1 : (D.set j x).take j = D.take j := by rw [List.take_set_of_le (Nat.le_refl _)]
    have e2 : L[k] = x := (List.getElem?_eq_some_iff.1 hk).2
    rw [e1, e2]
    simp [hx]
  · rw [List.getElem?_set_ne (by have := h.jk; omega)]
    exact h.rest i (by omega)
theorem DelI.skip {L D : List HoldT} {p : HoldT → Bool} {k j : Nat} {x : HoldT} (h : DelI L D p k j) (hk : L[k]? = some x) (hx : p x = true) : DelI L D p (k + 1) j := by
  have hlt := (List.getElem?_eq_some_iff.1 hk).1
  refine ⟨h.len, ?_, by have := h.jk; omega, fun i hi => h.rest i (by omega)⟩
  rw [List.take_succ_eq_append_getElem hlt, List.filter_append, ← h.done]
  have e2 : L[k] = x := (List.getElem?_eq_some_iff.1 hk).2
  rw [e2]
  simp [hx]
theorem DelI.start {L : List HoldT} {p : HoldT → Bool} {k : Nat} {x : HoldT} (hk : L[k]? = some x) (hb : ∀ (i : Nat) (y : HoldT), i < k → L[i]? = some y → p y = false) (hx : p x = true) : DelI L L p (k + 1) k := by
  have hlt := (List.getElem?_eq_some_iff.1 hk).1
  refine ⟨rfl, ?_, by omega, fun _ _ => rfl⟩
  have e1 : (L.take k).filter (fun x => !p x) = L.take k := by
    rw [List.filter_eq_self]
    intro y hy
    obtain ⟨i, hi⟩ := List.getElem?_of_mem hy
    have hik : i < k := by have := (List.getElem?_eq_some_iff.1 hi).1; rw [List.length_take] at this; omega
    rw [List.getElem?_take, if_pos hik] at hi
    simp [hb i y hik hi]
  have e2 : L[k] = x := (List.getElem?_eq_some_iff.1 hk).2
  rw [List.take_succ_eq_append_getElem hlt, List.filter_append, e1, e2]
  simp [hx]
theorem idx_some {L : List HoldT} {p : HoldT → Bool} {k : Nat} (h : idxV L p = (k : Int)) : ∃ x, L[k]? = some x ∧ p x = true ∧ ∀ (i : Nat) (y : HoldT), i < k → L[i]? = some y → p y = false := by
  unfold idxV at h
  cases hf : L.findIdx? p with
  | none =>
    rw [hf] at h
    simp only at h
    omega
  | some i =>
    rw [hf] at h
    simp only at h
    obtain rfl : i = k := by omega
    rw [List.findIdx?_eq_some_iff_getElem] at hf
    obtain ⟨h1, h2, h3⟩ := hf
    refine ⟨_, List.getElem?_eq_getElem h1, h2, fun j y hj hy => ?_⟩
    have := h3 j hj
    have e := (List.getElem?_eq_some_iff.1 hy).2
    rw [e] at this
    simpa using this
theorem idx_none {L : List HoldT} {p : HoldT → Bool} (h : idxV L p < 0) : idxV L p = -1 ∧ L.filter (fun x => !p x) = L := by
  unfold idxV at h ⊢
  cases hf : L.findIdx? p with
  | none =>
    refine ⟨rfl, ?_⟩
    rw [List.findIdx?_eq_none_iff] at hf
    rw [List.filter_eq_self]
    intro x hx
    simp [hf x hx]
  | some i =>
    rw [hf] at h
    simp only at h
    omega
theorem own_setCells {base e sz n g cap : Nat} : ∀ (vs : List Value) (o : Nat) (w : World) (xs : List Value), w.ownsRow base e sz (.slice (some ⟨g, 0, none⟩) n cap) n xs → o + vs.length ≤ n * sz →
    ∃ xs', (w.setCells g o vs).ownsRow base e sz (.slice (some ⟨g, 0, none⟩) n cap) n xs' ∧ xs'.take o = xs.take o
  | [], o, w, xs, h, _ => ⟨xs, h, rfl⟩
  | v :: r, o, w, xs, h, hl => by
    rw [World.setCells]
    simp only [List.length_cons] at hl
    obtain ⟨xs', h1, h2⟩ := own_setCells r (o + 1) _ _ (own_set (i := o) v h (by omega)) (by omega)
    refine ⟨xs', h1, ?_⟩
    have := congrArg (List.take o) h2
    rw [List.take_take, List.take_take, Nat.min_eq_left (by omega), List.take_set_of_le (Nat.le_refl _)] at this
    exact this
theorem zeros_len (n : Nat) : (Builtin.zeroCells #[.int .i64 0, .int .i64 0, .int .i64 0, .int .i64 0] n).toList.length = n * 4 := by simp [Builtin.zeroCells]
set_option maxRecDepth 100000 in
set_option maxHeartbeats 4000000 in
theorem hdel_calls (w : World) (base : Nat) (v : Value) (L : List HoldT) (gw : Nat) (lb : Array Value) (p : HoldT → Bool) (ho : w.ownsRow base 39 4 v L.length (hcells L)) (hb : base ≤ w.heap.size) (heg : ∀ args w, (callFunc gw args).run Tryd.prog w = .ok (.enter gw args) w) (hp : PredHS w v.ownBlock.toList gw lb L p) :
    Calls Tryd.prog 124 #[v, .func (.func gw) #[] lb] w fun e w' =>
      ∃ v', e = .returned v' ∧ w'.ownsRow base 39 4 v' (L.filter (fun x => !p x)).length (hcells (L.filter (fun x => !p x))) ∧ v'.ownBlock = v.ownBlock ∧ Mod v.ownBlock.toList w w' := by
  have C := Lib.hid (hidx_calls w v L gw lb p (hs_own ho) heg hp.plain)
  by_cases hz : idxV L p < 0
  · obtain ⟨e1, e2⟩ := idx_none hz
    rw [e1] at C
    have HE := Lib.hid e2
    have HO := Lib.hid ho
    clear e1 e2 hz ho hp
    obtain ⟨A, cap, rfl, -⟩ := (own_slA HO.out).ex
    go_enter Tryd.func124, Tryd.ntmps124
    go_wp2_with fail
    refine C.out.mono ?_
    rintro e w1 ⟨rfl, m1⟩
    have M1 := Lib.hid m1
    clear m1
    go_wp2
    go_ret
    exact ⟨_, rfl, by rw [HE.out]; exact own_mod HO.out M1.out (by simp), rfl, M1.out.nil⟩
  · obtain ⟨k0, hk0⟩ : ∃ k0 : Nat, idxV L p = (k0 : Int) := ⟨(idxV L p).toNat, by omega⟩
    obtain ⟨x0, hx0, hpx0, hbx0⟩ := idx_some hk0
    have hI0 := DelI.start hx0 hbx0 hpx0
    have hk0n := (List.getElem?_eq_some_iff.1 hx0).1
    rw [hk0] at C
    obtain ⟨g, cap, hve, hg0, hgl, -⟩ : ∃ g cap, v = .slice (some ⟨g, 0, none⟩) L.length cap ∧ base ≤ g ∧ L.length ≤ cap ∧ True := by
      obtain ⟨g, cap, e, h1, h2, _⟩ := own_arr ho (by omega)
      exact ⟨g, cap, e, h1, h2, trivial⟩
    subst hve
    have hcap : cap ≤ 9223372036854775807 := by
      obtain ⟨g', cap', e, h1, h2, h3, _⟩ := own_arr ho (by omega)
      cases e
      unfold maxLen at h3
      omega
    obtain ⟨n, hn⟩ : ∃ n, n = L.length := ⟨_, rfl⟩
    rw [← hn] at C ho hk0n hgl hp ⊢
    have HN := Lib.hid hn
    have HP := Lib.hid hp
    have HO := Lib.hid ho
    have HI0 := Lib.hid hI0
    have EG := Lib.hid heg
    have hgw : g < w.heap.size := (own_lt' ho g rfl).2
    have hkm : ((k0 : Int) == -1) = false := beq_eq_false_iff_ne.2 (by omega)
    clear hk0 hx0 hpx0 hbx0 hI0 hn hp ho hz heg
    go_enter Tryd.func124, Tryd.ntmps124
    go_wp2_with fail
    refine C.out.mono ?_
    rintro e w1 ⟨rfl, m1⟩
    have M1 : Hid (Mod [g] w w1) := Lib.hid m1.nil
    have O1 := Lib.hid (own_mod HO.out m1 (by simp))
    clear m1
    go_wp2
    go_loopw [5, 6] (fun jv kv wr => ∃ (k j : Nat) (D : List HoldT), k ≤ n ∧ k0 + 1 ≤ k ∧ jv = .int .i64 j ∧ kv = .int .i64 k ∧ Hid (DelI L D p k j) ∧ Hid (j < k) ∧ Mod [g] w wr ∧ wr.ownsRow base 39 4 (.slice (some ⟨g, 0, none⟩) n cap) n (hcells D)) (fun _ kv _ => n - (intOf kv).toNat)
    case atStart => exact ⟨k0 + 1, k0, L, by omega, Nat.le_refl _, rfl, by go_num, HI0, Lib.hid (Nat.lt_succ_self _), M1.out, O1.out⟩
    case round =>
      obtain ⟨k, j, D, hk, hk1, rfl, rfl, hI, hjk, hM, ho⟩ := hrel
      clear HI0 M1 O1
      have hjk' := hjk.out
      have HM := Lib.hid hM
      have HO := Lib.hid ho
      by_cases hlt : k < n
      · have i0 : (0 : Int) ≤ (k : Int) := by omega
        have i1 : (k : Int) < (n : Int) := by omega
        have j0 : (0 : Int) ≤ (j : Int) := by omega
        have j1 : (j : Int) < (n : Int) := by omega
        obtain ⟨x, hxk⟩ : ∃ x, L[k]? = some x := ⟨_, List.getElem?_eq_getElem (by rw [← HN.out]; exact hlt)⟩
        have hDk : D[k]? = some x := by rw [hI.out.rest k (Nat.le_refl _)]; exact hxk
        have y0 := (own_cell ho (i := k * 4) (by have := hcells_get D k x hDk 0 _ rfl; exact this)).1
        have y1 := (own_cell ho (i := k * 4 + 1) (by have := hcells_get D k x hDk 1 _ rfl; exact this)).1
        have y2 := (own_cell ho (i := k * 4 + 2) (by have := hcells_get D k x hDk 2 _ rfl; exact this)).1
        have y3 := (own_cell ho (i := k * 4 + 3) (by have := hcells_get D k x hDk 3 _ rfl; exact this)).1
        obtain ⟨wa, hwa⟩ : ∃ wa, wa = wr.alloc (.cells #[.int .i64 x.1, .int .i64 x.2.1, .int .i64 x.2.2.1, .int .i64 x.2.2.2] 39) := ⟨_, rfl⟩
        have ma : Mod [] wr wa := by rw [hwa]; exact (Mod.refl _ _).alloc _
        have cA : Arr wa wr.heap.size 39 4 (fun i => if i = 0 then .int .i64 x.1 else if i = 1 then .int .i64 x.2.1 else if i = 2 then .int .i64 x.2.2.1 else .int .i64 x.2.2.2) := by
          rw [hwa]
          exact Arr.new' wr _ _ 4 _ rfl (fun i hi => by
            match i, hi with
            | 0, _ | 1, _ | 2, _ | 3, _ => rfl)
        have hgr : g < wr.heap.size := Nat.lt_of_lt_of_le hgw hM.size
        have C2 := Lib.hid (HP.out x (List.mem_of_getElem? hxk) wa (hM.trans ma.nil))
        have CA := Lib.hid cA
        have HWA := Lib.hid hwa
        have MA := Lib.hid ma
        have HXK := Lib.hid hxk
        have hee := EG.out
        clear hM ho hxk hDk hwa ma cA
        cases hpx : p x with
        | true =>
          rw [hpx] at C2
          have HPX := Lib.hid hpx
          clear hpx
          go_wp2_with (rw [← HWA.out]; refine C2.out.mono ?_; rintro e w5 ⟨rfl, m5⟩; have M5 := Lib.hid (MA.out.trans m5); clear m5)
          go_roundw
          case rel => exact ⟨k + 1, j, D, by omega, by omega, rfl, by go_num, Lib.hid (hI.out.skip HXK.out HPX.out), Lib.hid (by omega), HM.out.trans M5.out.nil, own_mod HO.out M5.out (by simp)⟩
          case measure => simp [intOf]; omega
        | false =>
          rw [hpx] at C2
          have HPX := Lib.hid hpx
          clear hpx
          obtain ⟨dd, hdd⟩ : ∃ dd, D[j]? = some dd := ⟨_, List.getElem?_eq_getElem (by rw [hI.out.len, ← HN.out]; omega)⟩
          have HDD := Lib.hid hdd
          clear hdd
          go_wp2_with (
            rw [← HWA.out]
            refine C2.out.mono ?_
            rintro e w5 ⟨rfl, m5⟩
            have M5 := Lib.hid (MA.out.trans m5)
            have hc5 := CA.out.mod m5 (by simp)
            have z0 := hc5.cell 0 (by omega)
            have z1 := hc5.cell 1 (by omega)
            have z2 := hc5.cell 2 (by omega)
            have z3 := hc5.cell 3 (by omega)
            simp only [if_true, if_false, Nat.reduceEqDiff] at z0 z1 z2 z3
            have ho5 := own_mod HO.out M5.out (by simp)
            obtain ⟨d0, f0⟩ := own_cell ho5 (i := j * 4) (by have := hcells_get D j dd HDD.out 0 _ rfl; exact this)
            obtain ⟨d1, f1⟩ := own_cell ho5 (i := j * 4 + 1) (by have := hcells_get D j dd HDD.out 1 _ rfl; exact this)
            obtain ⟨d2, f2⟩ := own_cell ho5 (i := j * 4 + 2) (by have := hcells_get D j dd HDD.out 2 _ rfl; exact this)
            obtain ⟨d3, f3⟩ := own_cell ho5 (i := j * 4 + 3) (by have := hcells_get D j dd HDD.out 3 _ rfl; exact this)
            have O5 := Lib.hid ho5
            clear m5 hc5 ho5)
          go_roundw
          case rel => exact ⟨k + 1, j + 1, D.set j x, by omega, by omega, by go_num, by go_num, Lib.hid (hI.out.keep HXK.out HPX.out), Lib.hid (by omega),
            (HM.out.trans M5.out.nil).trans (((((Mod.refl [g] w5).setCell (.inl (by simp)) _).setCell (.inl (by simp)) _).setCell (.inl (by simp)) _).setCell (.inl (by simp)) _), by
            rw [← hcells_put D j x (by rw [hI.out.len, ← HN.out]; omega)]
            exact own_set _ (own_set _ (own_set _ (own_set _ O5.out (by omega)) (by omega)) (by omega)) (by omega)⟩
          case measure => simp [intOf]; omega
      · have i1 : ¬ (k : Int) < (n : Int) := by omega
        obtain rfl : k = n := by omega
        have hjc : j < cap := by omega
        have j0 : (0 : Int) ≤ (j : Int) := by omega
        have j1 : (j : Int) ≤ (k : Int) := by omega
        have j2 : (j : Int) ≤ (cap : Int) := by omega
        have j3 : ¬ j = cap := by omega
        have hDl : (hcells D).length = k * 4 := by rw [hcells_len, hI.out.len, ← HN.out]
        have hcell : ∀ i, i < (k - j) * 4 → (wr.cell? ⟨g, j * 4 + i, none⟩).isSome = true ∧ wr.frozen? ⟨g, j * 4 + i, none⟩ = false := fun i hi => by
          have hlt2 : j * 4 + i < (hcells D).length := by rw [hDl]; omega
          obtain ⟨h1, h2⟩ := own_cell ho (i := j * 4 + i) (List.getElem?_eq_getElem hlt2)
          exact ⟨by rw [h1]; rfl, h2⟩
        have hcl := fun ty => run_clear4 wr ty g (j * 4) (k - j) (cap - j) (by omega) (fun i hi => (hcell i hi).1) (fun i hi => (hcell i hi).2)
        obtain ⟨xs', hx1, hx2⟩ := own_setCells (Builtin.zeroCells #[.int .i64 0, .int .i64 0, .int .i64 0, .int .i64 0] (k - j)).toList (j * 4) wr _ ho (by rw [zeros_len]; omega)
        have hfin := own_take hx1 (show j ≤ k by omega)
        rw [hx2, hcells_take D j (by rw [hI.out.len, ← HN.out]; omega), hI.out.done, List.take_of_length_le (by rw [← HN.out]; exact Nat.le_refl _)] at hfin
        have hjl : (L.filter (fun x => !p x)).length = j := by
          have := congrArg List.length hI.out.done
          rw [List.length_take, hI.out.len, ← HN.out, List.take_of_length_le (by rw [← HN.out]; exact Nat.le_refl _)] at this
          omega
        have hmz : Mod [g] w (wr.setCells g (j * 4) (Builtin.zeroCells #[.int .i64 0, .int .i64 0, .int .i64 0, .int .i64 0] (k - j)).toList) := hM.trans (mod_setCells g _ _ _)
        generalize (Builtin.zeroCells #[.int .i64 0, .int .i64 0, .int .i64 0, .int .i64 0] (k - j)).toList = zs at *
        have FIN := Lib.hid (And.intro hfin (And.intro hjl hmz))
        clear hfin hjl hmz hx1 hx2 hcell hDl hM ho hI
        go_wp2
        go_ret
        refine ⟨_, rfl, ?_, rfl, FIN.out.2.2⟩
        rw [FIN.out.2.1]
        exact FIN.out.1
end Go.Proofs.YtijjbkkcienfgaaDoor
