/- Who is dead keeps what it held: plain. No program in sight; no condition beyond what stands in each. -/
import Derived.Test.YtijjbkkcienfgaaDoorGrL
namespace Go.Proofs.YtijjbkkcienfgaaDoor
set_option linter.unusedVariables false
set_option linter.unusedSimpArgs false

/-- What stands while client 5 is dead. -/
structure DInv (a b m : Nat) (x : GS) : Prop where
  inv : GInv x
  dd : x.d 5 = true
  row : ∀ k, x.t 5 k = if a ≤ k ∧ k < b then m else 0
  wl : ∀ h ∈ x.wl, h.2.2.1 ≠ 5
  bb : x.bb 5 ≠ 6
theorem putTH_row {t : Nat → Nat → Nat} {h : HoldT} (hc : h.2.2.1 ≠ 5) : putTH t h 5 = t 5 := by
  funext k
  unfold putTH putT
  split
  · exact upT_other t _ _ h.2.2.1 _ (fun e => hc e.symm) k
  · rfl
theorem setT_row {t : Nat → Nat → Nat} {c : Int} (hc : c ≠ 5) (a b : Int) (g : Nat → Nat) : setT t c a b g 5 = t 5 := by
  funext k
  unfold setT
  split
  · rename_i h
    have := inC8_iff.1 h
    unfold setN
    rw [if_neg (by omega)]
  · rfl
theorem row_fold : ∀ (l : List HoldT) (v : SrvT), (∀ h ∈ l, h.2.2.1 ≠ 5) → (l.foldl srvStep v).t 5 = v.t 5
  | [], v, h => rfl
  | y :: l, v, h => by
    show (l.foldl srvStep (srvStep v y)).t 5 = v.t 5
    rw [row_fold l (srvStep v y) (fun z hz => h z (by simp [hz]))]
    unfold srvStep
    split
    · exact putTH_row (h y (by simp))
    · rfl
theorem dinv_serve {a b m : Nat} {x : GS} (h : DInv a b m x) (z : List Nat) : DInv a b m (x.serve z).1 := by
  have I := srvI_srv h.inv.last
  refine ⟨inv_served h.inv, h.dd, fun k => ?_, fun y hy => h.wl y (I.left.subset hy), h.bb⟩
  show x.srv.t 5 k = _
  have := row_fold x.wl x.srv0 h.wl
  show (x.wl.foldl srvStep x.srv0).t 5 k = _
  rw [this]
  exact h.row k
theorem dinv_do {a b m : Nat} {x : GS} (h : DInv a b m x) {c : CmdT} (h7 : c.k ≠ 7) (h5 : c.c ≠ 5) (h6 : c.c ≠ 6) : DInv a b m (x.Do c).1 := by
  have hI := inv_do h.inv c
  by_cases k1 : c.k = 1
  · have e : x.Do c = x.ask c := by simp [GS.Do, k1]
    rw [e] at hI ⊢
    have hh : c.hold.2.2.1 = c.c.toNat := rfl
    unfold GS.ask at hI ⊢
    split
    · exact h
    rename_i g1
    rw [if_neg g1] at hI
    have hc8 : 0 ≤ c.c ∧ c.c < 8 := by
      have : inC8 c.c = true := by
        cases e : inC8 c.c
        · exact absurd (.inl e) g1
        · rfl
      exact inC8_iff.1 this
    split
    · exact h
    rename_i g1
    rw [if_neg g1] at hI
    split
    · exact h
    rename_i g1
    rw [if_neg g1] at hI
    split
    · exact h
    rename_i g1
    rw [if_neg g1] at hI
    split
    · exact h
    rename_i g1
    rw [if_neg g1] at hI
    split
    · rename_i g2
      rw [if_pos g2] at hI
      split
      · rename_i g3
        rw [if_pos g3] at hI
        refine ⟨hI, h.dd, fun k => ?_, h.wl, h.bb⟩
        show putTH x.t c.hold 5 k = _
        rw [putTH_row (by rw [hh]; omega)]
        exact h.row k
      · exact h
    · rename_i g2
      rw [if_neg g2] at hI
      split
      · exact h
      · rename_i g3
        rw [if_neg g3] at hI
        refine ⟨hI, h.dd, h.row, fun y hy => ?_, h.bb⟩
        rcases List.mem_append.1 hy with hy | hy
        · exact h.wl y hy
        · rw [List.mem_singleton.1 hy, hh]
          omega
  by_cases k6 : c.k = 6
  · have e : x.Do c = x.recover c := by simp [GS.Do, k6]
    rw [e] at hI ⊢
    unfold GS.recover at hI ⊢
    split
    · exact h
    rename_i g1
    rw [if_neg g1] at hI
    split
    · exact h
    rename_i g1
    rw [if_neg g1] at hI
    refine ⟨hI, h.dd, h.row, h.wl, ?_⟩
    show upd x.bb c.o.toNat c.c 5 ≠ 6
    unfold upd
    split
    · exact h6
    · exact h.bb
  clear hI
  unfold GS.Do
  rw [if_neg k1]
  split
  · unfold GS.release
    split
    · exact h
    · refine dinv_serve ?_ _
      exact ⟨inv_same h.inv rfl rfl h.inv.by1, h.dd, fun k => by show setT x.t c.c c.a c.b (fun _ => 0) 5 k = _; rw [setT_row h5]; exact h.row k, h.wl, h.bb⟩
  split
  · unfold GS.weaken
    split
    · exact h
    · refine dinv_serve ?_ _
      exact ⟨inv_same h.inv rfl rfl h.inv.by1, h.dd, fun k => by show setT x.t c.c c.a c.b (fun m => min m 1) 5 k = _; rw [setT_row h5]; exact h.row k, h.wl, h.bb⟩
  split
  · exact ⟨inv_same h.inv rfl rfl h.inv.by1, h.dd, h.row, h.wl, h.bb⟩
  split
  · refine dinv_serve ?_ _
    refine ⟨inv_filter h.inv _ rfl rfl rfl, ?_, h.row, fun y hy => h.wl y (List.mem_filter.1 hy).1, h.bb⟩
    show swD x.u x.d c.n 8 5 = true
    unfold swD
    split
    · rfl
    · exact h.dd
  try rw [if_neg k6]
  try rw [if_neg h7]
  split
  · unfold GS.cancel
    split
    · exact h
    split
    · exact h
    · refine dinv_serve ?_ _
      exact ⟨inv_filter h.inv _ rfl rfl rfl, h.dd, h.row, fun y hy => h.wl y (List.mem_filter.1 hy).1, h.bb⟩
  · exact h
/-- The dead one renews nothing. -/
theorem dinv_renew {a b m : Nat} {x : GS} (h : DInv a b m x) {i : Nat} (hi : i ≤ 1000) : x.Do ⟨4, 5, 100 + (i : Int), 12, 5, 0, 0, 0, 0⟩ = (x, .err 200) := by
  have e : renewE x.s x.d 5 (100 + (i : Int)) 12 5 = 200 := by
    unfold renewE
    rw [if_neg (by decide), if_neg (by omega), if_neg (by omega), if_neg (by decide), if_neg (by decide), if_pos]
    exact h.dd
  have e0 : x.Do ⟨4, 5, 100 + (i : Int), 12, 5, 0, 0, 0, 0⟩ = x.renew ⟨4, 5, 100 + (i : Int), 12, 5, 0, 0, 0, 0⟩ := by simp only [GS.Do]; rfl
  rw [e0]
  unfold GS.renew renewU renewS renewV
  simp only
  rw [e]
  rfl
theorem dinv_list {a b m : Nat} {x : GS} (h : DInv a b m x) (hab : a < b) (hb : b ≤ 256) (hm : m ≠ 0) : runsL (x.t 5) 0 256 = [(a, b, m)] := runs_one hab hb hm (fun k _ => h.row k)
theorem dinv_mem {a b m : Nat} {x : GS} (h : DInv a b m x) (hab : a < b) (hb : b ≤ 256) (hm : m ≠ 0) : (a, b, 5, m) ∈ listL x.t := by
  unfold listL
  rw [mem_holds]
  exact ⟨5, (a, b, m), by omega, by rw [dinv_list h hab hb hm]; simp, rfl, rfl⟩
theorem row_filter (c : Nat) : ∀ (l : List Run), (rowHolds pAll c l).filter (fun h => decide ((h.2.2.1 : Int) = 5)) = if c = 5 then rowHolds pAll c l else []
  | [] => by simp [rowHolds]
  | r :: l => by
    have ih := row_filter c l
    show (holdOf pAll c r ++ rowHolds pAll c l).filter _ = _
    rw [List.filter_append, ih]
    have : holdOf pAll c r = [(r.1, r.2.1, c, r.2.2)] := by simp [holdOf, pAll]
    by_cases e : c = 5
    · subst e
      rw [if_pos rfl, if_pos rfl, this]
      show _ = holdOf pAll 5 r ++ rowHolds pAll 5 l
      rw [this]
      rfl
    · rw [if_neg e, if_neg e, this]
      simp
      omega
theorem list_filter (t : Nat → Nat → Nat) : ∀ n, (holdsTo t 0 256 pAll n).filter (fun h => decide ((h.2.2.1 : Int) = 5)) = if 5 < n then rowHolds pAll 5 (runsL (t 5) 0 256) else []
  | 0 => rfl
  | n + 1 => by
    show (holdsTo t 0 256 pAll n ++ rowHolds pAll n (runsL (t n) 0 256)).filter _ = _
    rw [List.filter_append, list_filter t n, row_filter]
    by_cases e : n = 5
    · subst e
      rw [if_neg (by omega), if_pos rfl, if_pos (by omega)]
      rfl
    · rw [if_neg e, List.append_nil]
      by_cases e2 : 5 < n
      · rw [if_pos e2, if_pos (by omega)]
      · rw [if_neg e2, if_neg (by omega)]
/-- The one that recovers is told just this hold. -/
theorem dinv_filter {a b m : Nat} {x : GS} (h : DInv a b m x) (hab : a < b) (hb : b ≤ 256) (hm : m ≠ 0) : (listL x.t).filter (fun h => decide ((h.2.2.1 : Int) = 5)) = [(a, b, 5, m)] := by
  unfold listL
  rw [list_filter, if_pos (by omega), dinv_list h hab hb hm]
  simp [rowHolds, holdOf, pAll]
/-- Nobody else is done with it. -/
theorem dinv_done {a b m : Nat} {x : GS} (h : DInv a b m x) : ∃ e, e ≠ 0 ∧ x.Do ⟨7, 6, 0, 0, 0, 0, 0, 0, 5⟩ = (x, .err e) := by
  have e0 : x.Do ⟨7, 6, 0, 0, 0, 0, 0, 0, 5⟩ = x.done ⟨7, 6, 0, 0, 0, 0, 0, 0, 5⟩ := by simp only [GS.Do]; rfl
  rw [e0]
  unfold GS.done
  by_cases e : x.recE ⟨7, 6, 0, 0, 0, 0, 0, 0, 5⟩ ≠ 0
  · exact ⟨_, e, by rw [if_pos e]⟩
  · refine ⟨150, by decide, ?_⟩
    rw [if_neg e, if_pos]
    exact h.bb
/-- Recovering: refused, or told. -/
theorem dinv_recover {a b m : Nat} {x : GS} (h : DInv a b m x) (hab : a < b) (hb : b ≤ 256) (hm : m ≠ 0) :
    (∃ e, (e = 150 ∨ e = 200) ∧ x.Do ⟨6, 6, 0, 0, 0, 0, 0, 0, 5⟩ = (x, .err e)) ∨
    (x.recE ⟨6, 6, 0, 0, 0, 0, 0, 0, 5⟩ = 0 ∧ x.Do ⟨6, 6, 0, 0, 0, 0, 0, 0, 5⟩ = ({ x with bb := upd x.bb 5 6 }, ⟨0, 0, [], [(a, b, 5, m)], []⟩)) := by
  have e0 : x.Do ⟨6, 6, 0, 0, 0, 0, 0, 0, 5⟩ = x.recover ⟨6, 6, 0, 0, 0, 0, 0, 0, 5⟩ := by simp only [GS.Do]; rfl
  rw [e0]
  have hd : deadV x.d 5 = true := by unfold deadV; rw [if_neg (by decide)]; exact h.dd
  unfold GS.recover
  by_cases e : x.recE ⟨6, 6, 0, 0, 0, 0, 0, 0, 5⟩ ≠ 0
  · left
    have e200 : x.recE ⟨6, 6, 0, 0, 0, 0, 0, 0, 5⟩ = 200 := by
      unfold GS.recE at e ⊢
      split
      · rfl
      · rename_i h1
        rw [if_neg h1, if_neg (by show ¬ deadV x.d 5 = false; rw [hd]; simp)] at e
        exact absurd rfl e
    exact ⟨200, .inr rfl, by rw [if_pos e, e200]⟩
  · rw [if_neg e]
    by_cases e2 : 0 ≤ x.bb (5 : Int).toNat ∧ x.bb (5 : Int).toNat ≠ 6 ∧ livesB x.u x.d (x.bb (5 : Int).toNat) = true
    · left
      exact ⟨150, .inl rfl, by rw [if_pos e2]⟩
    · right
      refine ⟨by simpa using e, ?_⟩
      rw [if_neg e2, dinv_filter h hab hb hm]
      rfl
/-- Done: it is free. -/
theorem dinv_free {a b m : Nat} {x : GS} (h : DInv a b m x) (hr : x.recE ⟨6, 6, 0, 0, 0, 0, 0, 0, 5⟩ = 0) :
    (({ x with bb := upd x.bb 5 6 } : GS).Do ⟨7, 6, 0, 0, 0, 0, 0, 0, 5⟩).2.e = 0 ∧ deadV (({ x with bb := upd x.bb 5 6 } : GS).Do ⟨7, 6, 0, 0, 0, 0, 0, 0, 5⟩).1.d 5 = false ∧ untilV (({ x with bb := upd x.bb 5 6 } : GS).Do ⟨7, 6, 0, 0, 0, 0, 0, 0, 5⟩).1.u 5 = -1 ∧
    ∀ y ∈ listL (({ x with bb := upd x.bb 5 6 } : GS).Do ⟨7, 6, 0, 0, 0, 0, 0, 0, 5⟩).1.t, y.2.2.1 ≠ 5 := by
  generalize hy : ({ x with bb := upd x.bb 5 6 } : GS) = y
  have yu : y.u = x.u := by rw [← hy]
  have yd : y.d = x.d := by rw [← hy]
  have yt : y.t = x.t := by rw [← hy]
  have yw : y.wl = x.wl := by rw [← hy]
  have yb : y.bb 5 = 6 := by rw [← hy]; show upd x.bb 5 6 5 = 6; unfold upd; rw [if_pos rfl]
  have hd : deadV y.d 5 = true := by unfold deadV; rw [if_neg (by decide), yd]; exact h.dd
  have e0 : y.Do ⟨7, 6, 0, 0, 0, 0, 0, 0, 5⟩ = y.done ⟨7, 6, 0, 0, 0, 0, 0, 0, 5⟩ := by simp only [GS.Do]; rfl
  have e1 : y.recE ⟨7, 6, 0, 0, 0, 0, 0, 0, 5⟩ = 0 := by
    unfold GS.recE at hr ⊢
    rw [yu, yd]
    exact hr
  have e2 : y.done ⟨7, 6, 0, 0, 0, 0, 0, 0, 5⟩ = GS.serve { y with t := setT y.t 5 0 256 (fun _ => 0), u := forgU y.u y.d 5, d := forgD y.d 5, bb := upd y.bb (5 : Int).toNat (-1) } [] := by
    unfold GS.done
    rw [if_neg (by rw [e1]; simp), if_neg]
    show ¬ y.bb (5 : Int).toNat ≠ 6
    rw [show (5 : Int).toNat = 5 from rfl, yb]
    simp
  rw [e0, e2]
  refine ⟨rfl, ?_, ?_, fun z hz => ?_⟩
  · show deadV (forgD y.d 5) 5 = false
    unfold forgD
    rw [if_pos hd]
    unfold deadV
    rw [if_neg (by decide)]
    show upd y.d 5 false 5 = false
    unfold upd
    rw [if_pos rfl]
  · show untilV (forgU y.u y.d 5) 5 = -1
    unfold forgU
    rw [if_pos hd]
    unfold untilV
    rw [if_neg (by decide)]
    show upd y.u 5 (-1) 5 = -1
    unfold upd
    rw [if_pos rfl]
  · have hrow : (GS.srv { y with t := setT y.t 5 0 256 (fun _ => 0), u := forgU y.u y.d 5, d := forgD y.d 5, bb := upd y.bb (5 : Int).toNat (-1) }).t 5 = setT y.t 5 0 256 (fun _ => 0) 5 :=
      row_fold _ _ (fun z hz => h.wl z (by rw [← yw]; exact hz))
    have hz : z ∈ holdsTo (GS.srv { y with t := setT y.t 5 0 256 (fun _ => 0), u := forgU y.u y.d 5, d := forgD y.d 5, bb := upd y.bb (5 : Int).toNat (-1) }).t 0 256 pAll 8 := hz
    rw [mem_holds] at hz
    obtain ⟨c, r, hc, hr2, _, rfl⟩ := hz
    intro e5
    have e5 : c = 5 := e5
    subst e5
    rw [hrow] at hr2
    have : runsL (setT y.t 5 0 256 (fun _ => 0) 5) 0 256 = [] := runs_none (fun k _ hk => by
      have := setT_at y.t 5 0 256 (fun _ => 0) (c := 5) (k := k) (by omega) (by omega)
      rw [this, if_pos (by omega)])
    rw [this] at hr2
    cases hr2
/-! ### how it begins -/
def deadS2 : GS := ((GS.new.Do ⟨4, 5, 1, 0, 10, 0, 0, 0, 0⟩).1.Do ⟨4, 6, 1, 0, 1000, 0, 0, 0, 0⟩).1
def dS : GS := ⟨fun _ _ => 0, upd (upd u0 5 10) 6 1000, upd (upd s0 5 1) 6 1, d0, [], 0, fun _ => -1⟩
theorem deadS2_is : deadS2 = dS := by
  have h1 := (renew_new (c := ⟨4, 5, 1, 0, 10, 0, 0, 0, 0⟩) rfl ⟨by decide, by decide⟩ ⟨by decide, by decide⟩).2 rfl
  have e1 : GS.new.Do ⟨4, 5, 1, 0, 10, 0, 0, 0, 0⟩ = GS.new.renew ⟨4, 5, 1, 0, 10, 0, 0, 0, 0⟩ := by simp only [GS.Do]; rfl
  unfold deadS2
  rw [e1, h1]
  rfl
theorem dead_e1 : (GS.new.Do ⟨4, 5, 1, 0, 10, 0, 0, 0, 0⟩).1.Do ⟨4, 6, 1, 0, 1000, 0, 0, 0, 0⟩ = (deadS2, ((GS.new.Do ⟨4, 5, 1, 0, 10, 0, 0, 0, 0⟩).1.Do ⟨4, 6, 1, 0, 1000, 0, 0, 0, 0⟩).2) := rfl
/-- The hold is given. -/
theorem dead_ask {ra rb m : Int} (hb : blk ra rb = true) (hm : m = 1 ∨ m = 2) : deadS2.Do ⟨1, 5, 0, 0, 0, ra, rb, m, 0⟩ = ({ deadS2 with t := tO 5 ra.toNat rb.toNat m.toNat, last := 1 }, ⟨0, 1, [], [], []⟩) := by
  have hb3 : 0 ≤ ra ∧ ra < rb ∧ rb ≤ 256 := by
    simp only [blk, Bool.and_eq_true, decide_eq_true_eq] at hb
    omega
  have e0 : deadS2.Do ⟨1, 5, 0, 0, 0, ra, rb, m, 0⟩ = deadS2.ask ⟨1, 5, 0, 0, 0, ra, rb, m, 0⟩ := by simp only [GS.Do, if_true]
  rw [e0, deadS2_is]
  have hl : livesB (upd (upd u0 5 10) 6 1000) d0 5 = true := by decide
  have hs : someL (fun _ _ => 0) (ra.toNat : Nat) (rb.toNat : Nat) (pAg ((5 : Int).toNat : Nat) (m.toNat : Nat)) = [] := by
    unfold someL
    exact holds_none 8 (fun _ _ _ _ _ => rfl)
  have hf : freeT (fun _ _ => 0) (CmdT.hold ⟨1, 5, 0, 0, 0, ra, rb, m, 0⟩) [] = true := by
    show freeT (fun _ _ => 0) (ra.toNat, rb.toNat, (5 : Int).toNat, m.toNat) [] = true
    unfold freeT
    rw [hs]
    rfl
  obtain ⟨hp, ht⟩ := put_first (c := 5) (x1 := ra.toNat) (x2 := rb.toNat) (m := m.toNat) (by omega) (by omega) (by omega) (by omega)
  have hp2 : putEH (fun _ _ => 0) (CmdT.hold ⟨1, 5, 0, 0, 0, ra, rb, m, 0⟩) = 0 := hp
  have ht2 : putTH (fun _ _ => 0) (CmdT.hold ⟨1, 5, 0, 0, 0, ra, rb, m, 0⟩) = tO 5 ra.toNat rb.toNat m.toNat := ht
  unfold GS.ask
  rw [if_neg (by show ¬ (inC8 5 = false ∨ okM m = false); rcases hm with h | h <;> subst h <;> decide), if_neg (by show ¬ blk ra rb = false; rw [hb]; simp), if_neg (by show ¬ livesB (upd (upd u0 5 10) 6 1000) d0 5 = false; rw [hl]; simp), if_neg (by simp [dS]), if_neg (by show ¬ maxS ≤ 0; unfold maxS; omega)]
  rw [if_pos (show freeT dS.t (CmdT.hold ⟨1, 5, 0, 0, 0, ra, rb, m, 0⟩) dS.wl = true from hf), if_pos (show putEH dS.t (CmdT.hold ⟨1, 5, 0, 0, 0, ra, rb, m, 0⟩) = 0 from hp2)]
  have e3 : putTH dS.t (CmdT.hold ⟨1, 5, 0, 0, 0, ra, rb, m, 0⟩) = tO 5 ra.toNat rb.toNat m.toNat := ht2
  rw [e3]
  rfl
/-- Its client is swept. -/
theorem dead_sweep (a b m : Nat) : ∃ x4, ({ deadS2 with t := tO 5 a b m, last := 1 } : GS).Do ⟨5, 0, 0, 11, 0, 0, 0, 0, 0⟩ = (x4, ⟨0, 0, [], [], [5]⟩) ∧ DInv a b m x4 := by
  have e0 : ({ deadS2 with t := tO 5 a b m, last := 1 } : GS).Do ⟨5, 0, 0, 11, 0, 0, 0, 0, 0⟩ = ({ deadS2 with t := tO 5 a b m, last := 1 } : GS).sweep ⟨5, 0, 0, 11, 0, 0, 0, 0, 0⟩ := by simp only [GS.Do]; rfl
  rw [e0, deadS2_is]
  have hL : swL (upd (upd u0 5 10) 6 1000) d0 11 8 = [5] := by decide
  have hD : swD (upd (upd u0 5 10) 6 1000) d0 11 8 5 = true := by decide
  refine ⟨GS.served { GS.new with u := upd (upd u0 5 10) 6 1000, s := upd (upd s0 5 1) 6 1, t := tO 5 a b m, last := 1, d := swD (upd (upd u0 5 10) 6 1000) d0 11 8, wl := [] }, ?_, ?_⟩
  · unfold GS.sweep
    show GS.serve _ (swL (upd (upd u0 5 10) 6 1000) d0 11 8) = _
    rw [hL]
    rfl
  · refine ⟨inv_served ⟨by show 1 ≤ maxS; unfold maxS; omega, fun h hh => by simp at hh, by simp, by simp, inv_new.by1⟩, hD, fun k => ?_, fun h hh => ?_, by show (-1 : Int) ≠ 6; decide⟩
    · show tO 5 a b m 5 k = _
      unfold tO
      by_cases e : a ≤ k ∧ k < b
      · rw [if_pos e, if_pos ⟨rfl, e.1, e.2⟩]
      · rw [if_neg e, if_neg (fun h => e ⟨h.2.1, h.2.2⟩)]
    · simp [GS.served, GS.srv, GS.srv0] at hh
end Go.Proofs.YtijjbkkcienfgaaDoor
