/- Some holds of a table in a range (package span), as wished. No condition beyond what stands in it. -/
import Derived.Test.YtijjbkkcienfgaaDoorSpan2
import Derived.Sort.CutIn
namespace Go.Proofs.YtijjbkkcienfgaaDoor
open Go.RowKit Go.Shelf
set_option linter.unusedVariables false
set_option linter.unusedSimpArgs false
attribute [local go_sem] Oper.semAt_some wide_fn
attribute [local go_sem ↓] Go.wp_at_zero Go.wp_at_succ

abbrev HoldT := Nat × Nat × Nat × Nat
def holdOf (p : Nat → Nat → Bool) (c : Nat) (r : Run) : List HoldT := if p c r.2.2 = true then [(r.1, r.2.1, c, r.2.2)] else []
def rowHolds (p : Nat → Nat → Bool) (c : Nat) (l : List Run) : List HoldT := l.flatMap (holdOf p c)
def holdsTo (t : Nat → Nat → Nat) (lo n : Nat) (p : Nat → Nat → Bool) : Nat → List HoldT
  | 0 => []
  | c + 1 => holdsTo t lo n p c ++ rowHolds p c (runsL (t c) lo n)
def hcell (h : HoldT) : List Value := [.int .i64 h.1, .int .i64 h.2.1, .int .i64 h.2.2.1, .int .i64 h.2.2.2]
def hcells (l : List HoldT) : List Value := l.flatMap hcell
theorem hcells_snoc (l : List HoldT) (h : HoldT) : hcells (l ++ [h]) = hcells l ++ hcell h := by simp [hcells]
theorem rowHolds_snoc (p : Nat → Nat → Bool) (c : Nat) (l : List Run) (r : Run) : rowHolds p c (l ++ [r]) = rowHolds p c l ++ holdOf p c r := by simp [rowHolds]
theorem rowHolds_len (p : Nat → Nat → Bool) (c : Nat) (l : List Run) : (rowHolds p c l).length ≤ l.length := by
  induction l with
  | nil => simp [rowHolds]
  | cons r l ih =>
    have : (rowHolds p c (r :: l)).length = (holdOf p c r).length + (rowHolds p c l).length := by simp [rowHolds]
    have h1 : (holdOf p c r).length ≤ 1 := by unfold holdOf; split <;> simp
    simp
    omega
theorem holdsTo_len (t : Nat → Nat → Nat) (lo n : Nat) (p : Nat → Nat → Bool) : ∀ c, (holdsTo t lo n p c).length ≤ c * n
  | 0 => by simp [holdsTo]
  | c + 1 => by
    have h1 := holdsTo_len t lo n p c
    have h2 := rowHolds_len p c (runsL (t c) lo n)
    have h3 := runsL_len (f := t c) (lo := lo) n
    simp only [holdsTo, List.length_append]
    rw [Nat.succ_mul]
    omega

theorem info_hold : (Tryd.prog.info? 39).map (fun i => (i.zero, i.size, i.bytes)) = some (some (.agg #[.int .i64 0, .int .i64 0, .int .i64 0, .int .i64 0]), 4, 32) := by kernel_rfl

/-- The variables of 'some', from block s on. -/
structure SomeV (w W : World) (s : Nat) (a b : Int) (FW v : Value) (L : List HoldT) : Prop where
  b0 : Arr W s 23 2 (rgF a b)
  b1 : Boxed W (s + 1) 153 FW
  b2 : Boxed W (s + 1 + 1) 31 v
  own : W.ownsRow w.heap.size 39 4 v L.length (hcells L)
  md : Mod [] w W
def someM (s : Nat) (v : Value) : List Nat := s :: (s + 1) :: (s + 1 + 1) :: v.ownBlock.toList
theorem SomeV.mod {w W W' : World} {s : Nat} {a b : Int} {FW v : Value} {L : List HoldT} {T : List Nat} (h : SomeV w W s a b FW v L) (m : Mod T W W') (ht : ∀ t, t ∈ T → t ∉ someM s v ∧ w.heap.size ≤ t) : SomeV w W' s a b FW v L :=
  ⟨h.b0.mod m (fun e => (ht _ e).1 (by simp [someM])), boxMod h.b1 m (fun e => (ht _ e).1 (by simp [someM])), boxMod h.b2 m (fun e => (ht _ e).1 (by simp [someM])),
   own_mod h.own m (fun k hk e => (ht _ e).1 (by simp [someM, hk])), h.md.fresh m (fun t e => .inr (ht t e).2)⟩
theorem SomeV.cells {w W : World} {s : Nat} {a b : Int} {FW v : Value} {L : List HoldT} (h : SomeV w W s a b FW v L) : ∀ k, k ∈ someM s v → IsCells W k := by
  intro k hk
  simp only [someM, List.mem_cons] at hk
  rcases hk with rfl | rfl | rfl | hk
  · exact h.b0.isCells
  · exact boxCells h.b1
  · exact boxCells h.b2
  · obtain ⟨_, h2 | ⟨g, cap, cur, rfl, hg, hh, _⟩⟩ := h.own
    · rw [h2.1] at hk; simp [Value.ownBlock] at hk
    · simp [Value.ownBlock] at hk; subst hk; exact ⟨_, hh, rfl⟩

def someF (bT : Nat) (a b : Int) (FW : Value) (s : Nat) (u8 u9 u10 : Value) (c : Nat) (u12 u13 u14 u15 u16 u17 u18 u19 u20 u21 u22 u34 : Value) : Array Value :=
  #[.pointer (some ⟨bT, 0, none⟩), .agg #[.int .i64 a, .int .i64 b], FW, undef, .pointer (some ⟨s, 0, none⟩), .pointer (some ⟨s + 1, 0, none⟩), .slice none 0 0, .pointer (some ⟨s + 1 + 1, 0, none⟩), u8, u9, u10, .int .i64 c,
    u12, u13, u14, u15, u16, u17, u18, u19, u20, u21, u22, undef, undef, undef, undef, undef, undef, undef, undef, undef, undef, undef, u34, undef]

/-- Between two rounds of a client's loop. -/
def SomeC (w : World) (a b : Int) (FW : Value) (bc c : Nat) (p : Nat → Nat → Bool) (acc : List HoldT) (pre : List Run) (M : List Nat) (W : World) : Prop :=
  ∃ v, M = bc :: someM w.heap.size v ∧ SomeV w W w.heap.size a b FW v (acc ++ rowHolds p c pre) ∧ Boxed W bc 3 (.int .i64 c) ∧ w.heap.size + 1 + 1 < bc
/-- In a round. -/
def SomeA (w : World) (bT : Nat) (a b : Int) (FW : Value) (bc c : Nat) (p : Nat → Nat → Bool) (acc : List HoldT) (pre : List Run) (x : Run) (a' : Act) (M : List Nat) (W : World) : Prop :=
  ∃ v b9 u12 u13 u14 u15 u16 u17 u18 u19 u20 u21 u22 u34, M = b9 :: bc :: someM w.heap.size v ∧ SomeV w W w.heap.size a b FW v (acc ++ rowHolds p c pre) ∧ Boxed W bc 3 (.int .i64 c) ∧ w.heap.size + 1 + 1 < bc ∧
    Arr W b9 23 2 (rgF x.1 x.2.1) ∧ a' = ⟨someF bT a b FW w.heap.size (.pointer (some ⟨bc, 0, none⟩)) (.pointer (some ⟨b9, 0, none⟩)) (.int .i64 x.2.2) c u12 u13 u14 u15 u16 u17 u18 u19 u20 u21 u22 u34, []⟩
theorem someNew {w W W' : World} {a b : Int} {FW v v' : Value} {L : List HoldT} {bc : Nat} {M : List Nat} (h : SomeV w W' w.heap.size a b FW v' L) (hb : Boxed W' bc 3 (.int .i64 (0 : Int)) ∨ IsCells W' bc)
    (hM : ∀ k, k ∈ bc :: someM w.heap.size v → k ∈ M) (hv : v'.ownBlock = v.ownBlock ∨ ∀ k, v'.ownBlock = some k → k ∈ v.ownBlock.toList ∨ W.heap.size ≤ k) : NewIn M W (bc :: someM w.heap.size v') W' := by
  intro k hk
  have hc : IsCells W' bc := by
    rcases hb with hb | hb
    · exact boxCells hb
    · exact hb
  rcases List.mem_cons.1 hk with e | e
  · subst e; exact ⟨hc, .inl (hM _ (List.mem_cons_self ..))⟩
  · refine ⟨h.cells k e, ?_⟩
    simp only [someM, List.mem_cons] at e
    rcases e with e | e | e | e
    · exact .inl (hM _ (by simp [someM, e]))
    · exact .inl (hM _ (by simp [someM, e]))
    · exact .inl (hM _ (by simp [someM, e]))
    · rcases hv with hv | hv
      · rw [hv] at e; exact .inl (hM _ (by simp only [someM, List.mem_cons]; exact .inr (.inr (.inr (.inr e)))))
      · rcases hv k (by simpa using e) with h2 | h2
        · exact .inl (hM _ (by simp only [someM, List.mem_cons]; exact .inr (.inr (.inr (.inr h2)))))
        · exact .inr h2

theorem own_type {w : World} {base e size n : Nat} {v : Value} {xs : List Value} (h : w.ownsRow base e size v n xs) : ∀ s, s ∈ v.ownBlock.toList → ∀ cs T, w.heap[s]? = some (.cells cs T (0, 0)) → T = e := by
  obtain ⟨_, h2 | ⟨g, cap, cur, rfl, hg, hh, _⟩⟩ := h
  · rw [h2.1]; simp [Value.ownBlock]
  · intro s hs cs T hc
    simp [Value.ownBlock] at hs
    subst hs
    rw [hh] at hc
    simp at hc
    exact hc.2.symm
/-- A hold is appended to what 'some' has. -/
theorem SomeV.app {w W w1 : World} {a b : Int} {FW v v' : Value} {L : List HoldT} {h : HoldT} {o : Obj} {g cap : Nat} (hv : SomeV w W w.heap.size a b FW v L)
    (hown : w1.ownsRow w.heap.size 39 4 v' (L.length + 1) (hcells L ++ hcell h)) (hm : Mod v.ownBlock.toList (W.alloc o) w1) (hv' : v' = .slice (some ⟨g, 0, none⟩) (L.length + 1) cap) :
    (w1.cell? ⟨w.heap.size + 1 + 1, 0, none⟩ = some v ∧ w1.frozen? ⟨w.heap.size + 1 + 1, 0, none⟩ = false) ∧
    SomeV w (w1.setCell ⟨w.heap.size + 1 + 1, 0, none⟩ v') w.heap.size a b FW v' (L ++ [h]) ∧ Mod (someM w.heap.size v) W (w1.setCell ⟨w.heap.size + 1 + 1, 0, none⟩ v') := by
  have ht := own_type hv.own
  obtain ⟨cs0, h0, _⟩ := hv.b0
  have n0 : w.heap.size ∉ v.ownBlock.toList := fun e => by have := ht _ e _ _ h0; revert this; decide
  have n1 : w.heap.size + 1 ∉ v.ownBlock.toList := fun e => by have := ht _ e _ _ hv.b1; revert this; decide
  have n2 : w.heap.size + 1 + 1 ∉ v.ownBlock.toList := fun e => by have := ht _ e _ _ hv.b2; revert this; decide
  have b2 := boxMod (hv.b2.alloc o) hm n2
  have hl : ∀ k, k ∈ v.ownBlock.toList → w.heap.size ≤ k := fun k hk => (own_lt' hv.own k (by simpa using hk)).1
  have hnv : ∀ k, v'.ownBlock = some k → k ≠ w.heap.size + 1 + 1 := fun k hk e => by
    subst e
    have := own_type hown (w.heap.size + 1 + 1) (by rw [hk]; simp) _ _ b2
    revert this
    decide
  have hmW : Mod (someM w.heap.size v) W (w1.setCell ⟨w.heap.size + 1 + 1, 0, none⟩ v') :=
    (((Mod.refl _ W).alloc o).trans (hm.mono (fun k hk => by simp only [someM, List.mem_cons]; exact .inr (.inr (.inr hk))))).setCell (.inl (by simp [someM])) _
  refine ⟨⟨b2.cell, b2.frozen⟩, ⟨((hv.b0.alloc o).mod hm n0).other (by show w.heap.size + 1 + 1 ≠ w.heap.size; omega) _, (boxMod (hv.b1.alloc o) hm n1).other (by omega) _, b2.set v', ?_, ?_⟩, hmW⟩
  · rw [hcells_snoc, List.length_append]
    refine own_mod hown (S := [w.heap.size + 1 + 1]) ((Mod.refl _ w1).setCell (by simp) _) (fun k hk => ?_)
    simp only [List.mem_singleton]
    exact hnv k hk
  · exact hv.md.fresh hmW (fun k hk => by
      simp only [someM, List.mem_cons] at hk
      rcases hk with rfl | rfl | rfl | hk
      · exact .inr (Nat.le_refl _)
      · exact .inr (by omega)
      · exact .inr (by omega)
      · exact .inr (hl k hk))

/-- What 'some' answers. -/
def SomeP (w : World) (L : List HoldT) (e : Ending) (w' : World) : Prop := ∃ v, e = .returned v ∧ w'.ownsRow w.heap.size 39 4 v L.length (hcells L) ∧ Mod [] w w'

set_option maxRecDepth 100000 in
set_option maxHeartbeats 4000000 in
theorem some_calls (w : World) (bT gw : Nat) (lbw : Array Value) (t : Nat → Nat → Nat) (a b : Int) (p : Nat → Nat → Bool) (hT : Tb w bT t)
    (heg : ∀ args w, (callFunc gw args).run Tryd.prog w = .ok (.enter gw args) w)
    (hw : ∀ (c m : Nat) (w' : World), c < 8 → m ≤ 2 → Mod [] w w' → Calls Tryd.prog gw (#[.int .i64 c, .int .i64 m] ++ lbw) w' fun e w'' => e = .returned (.bool (p c m)) ∧ w' = w'') :
    Calls Tryd.prog 69 #[.pointer (some ⟨bT, 0, none⟩), .agg #[.int .i64 a, .int .i64 b], .func (.func gw) #[] lbw] w fun e w' => SomeP w (holdsTo t (max a 0).toNat ((min b 256).toNat - (max a 0).toNat) p 8) e w' ∧ w.heap.size ≤ w'.heap.size := by
  refine calls_of_wp_marks Tryd.func69 rfl ?_
  simp only [Tryd.ntmps69, List.size_toArray, List.length_cons, List.length_nil, Nat.reduceAdd, Nat.reduceSub, Array.replicate_succ, Array.replicate_zero, List.push_toArray, List.append_toArray, List.nil_append, List.cons_append]
  have hN : ((min b 256).toNat - (max a 0).toNat) ≤ 256 := by omega
  generalize hlo : (max a 0).toNat = lo at *
  generalize hNn : ((min b 256).toNat - lo) = N at *
  have HLO := Lib.hid hlo
  have HNN := Lib.hid hNn
  clear hlo hNn
  go_wp2
  obtain ⟨FW, hFW⟩ : ∃ FW : Value, FW = .func (.func gw) #[] lbw := ⟨_, rfl⟩
  rw [← hFW]
  have HFW := Lib.hid hFW
  clear hFW
  have hV : SomeV w (((w.alloc (.cells #[.int .i64 a, .int .i64 b] 23)).alloc (.cells #[FW] 153)).alloc (.cells #[.slice none 0 0] 31)) w.heap.size a b FW (.slice none 0 0) [] := by
    refine ⟨((Arr.new' w _ _ 2 _ rfl (fun i hi => by
      match i, hi with
      | 0, _ | 1, _ => rfl)).alloc _).alloc _, (boxAt (by simp)).alloc _, boxAt (by simp), own_nil _ _ _ _, (((Mod.refl _ _).alloc _).alloc _).alloc _⟩
  have HV := Lib.hid hV
  clear hV
  refine wp_loop_k (fun a' w' => ∃ (c : Nat) (ds : List Deferred) (u8 u12 u13 u14 u15 u16 u17 u18 u19 u20 u34 v : Value), c ≤ 8 ∧ a' = ⟨someF bT a b FW w.heap.size u8 undef undef c u12 u13 u14 u15 u16 u17 u18 u19 u20 undef undef u34, ds⟩ ∧ SomeV w w' w.heap.size a b FW v (holdsTo t lo N p c) ∧ Marks w.heap.size ds w')
    (fun a' _ => 8 - (intOf (a'.tmps.getD 11 undef)).toNat) ⟨0, [], _, _, _, _, _, _, _, _, _, _, _, _, by omega, rfl, HV.out, .nil⟩ ?_
  rintro a' wr ⟨c, ds, u8, u12, u13, u14, u15, u16, u17, u18, u19, u20, u34, v, hc8, rfl, hV, hM⟩ K hK
  clear HV
  have hK' : ∀ (ds : List Deferred) (u8 u12 u13 u14 u15 u16 u17 u18 u19 u20 u34 v : Value) (w' : World), c < 8 → SomeV w w' w.heap.size a b FW v (holdsTo t lo N p (c + 1)) → Marks w.heap.size ds w' → K ⟨someF bT a b FW w.heap.size u8 undef undef (c + 1) u12 u13 u14 u15 u16 u17 u18 u19 u20 undef undef u34, ds⟩ w' := by
    intro ds u8 u12 u13 u14 u15 u16 u17 u18 u19 u20 u34 v w' hc hV hM
    refine hK _ _ ⟨c + 1, ds, u8, u12, u13, u14, u15, u16, u17, u18, u19, u20, u34, v, by omega, rfl, hV, hM⟩ ?_
    simp [someF, intOf]
    omega
  have HK := Lib.hid hK'
  clear hK hK'
  unfold someF
  by_cases hlt : c < 8
  · have i0 : (0 : Int) ≤ (c : Int) := by omega
    have i1 : (c : Int) < 8 := by omega
    have hV2 := hV.mod ((Mod.refl [] wr).alloc (.cells #[.int .i64 (c : Int)] 3)) (by simp)
    have c40 : (wr.alloc (.cells #[.int .i64 (c : Int)] 3)).cell? ⟨w.heap.size, 0, none⟩ = some (.int .i64 a) := hV2.b0.cell 0 (by omega)
    have c41 : (wr.alloc (.cells #[.int .i64 (c : Int)] 3)).cell? ⟨w.heap.size, 1, none⟩ = some (.int .i64 b) := hV2.b0.cell 1 (by omega)
    clear hV2
    have hsz := hV.md.size
    have l1 := hV.b1.lt
    have l2 := hV.b2.lt
    go_upto_region 5 with (fail)
    go_cut [20] from 14 to 20 (fun s20 wx => ∃ g : Nat, s20 = .func (.func 83) #[] #[.pointer (some ⟨g + 1, 0, none⟩), .pointer (some ⟨g, 0, none⟩)] ∧ g = wr.heap.size + 1 ∧ Boxed wx g 175 (.pointer (some ⟨bT, c * 256, none⟩)) ∧ Arr wx (g + 1) 23 2 (rgF a b) ∧ Boxed wx wr.heap.size 3 (.int .i64 c) ∧ Mod [] wr wx)
    case first =>
      refine wp_calm ?_
      go_region_with (go_at_call 81; refine (spRuns_calls _ _ _ _).mono ?_; rintro e w9 ⟨rfl, rfl⟩)
      all_goals
        go_wp2
        go_meet
        refine ⟨wr.heap.size + 1, rfl, rfl, ?_, ?_, ?_, ((((Mod.refl _ _).alloc _).alloc _).alloc _).drew⟩
        · exact (boxAt (W := wr.alloc (.cells #[.int .i64 (c : Int)] 3)) (by simp)).alloc _
        · have h := Arr.new' ((wr.alloc (.cells #[.int .i64 (c : Int)] 3)).alloc (.cells #[.pointer (some ⟨bT, c * 256, none⟩)] 175)) #[.int .i64 a, .int .i64 b] 23 2 (rgF a b) rfl (fun i hi => by
            match i, hi with
            | 0, _ | 1, _ => rfl)
          simp only [World.size_alloc] at h
          exact h.drew
        · exact ((boxAt (W := wr) rfl).alloc _).alloc _
    case rest =>
      obtain ⟨g, rfl, hg, hB, hA, hc, hmd⟩ := hcut
      have hV2 := hV.mod hmd (by simp)
      have hM2 : Marks w.heap.size ds wc := hM.keep (fun D hD _ => hmd.heap hD (by simp))
      have hTc : Tb wc bT t := hT.mod hV2.md (by simp)
      have cB := hB.cell
      have hlT := hT.lt
      have hlg := hA.lt
      have hvl : ∀ k, v.ownBlock = some k → w.heap.size ≤ k ∧ k < wr.heap.size := fun k hk => own_lt' hV.own k hk
      clear hV hM c40 c41
      have hTc' : ∀ k, k < 256 → wc.cell? ⟨bT, c * 256 + k, none⟩ = some (.int .u8 (t c k : Nat)) := fun k hk => hTc.cell c k hlt hk
      have hsw := hmd.size
      generalize hbc : wr.heap.size = bc at *
      have hbc2 : w.heap.size + 1 + 1 < bc := by omega
      go_wp2
      refine rf_wp (α := Run) (gf := 83) (lb := #[.pointer (some ⟨g + 1, 0, none⟩), .pointer (some ⟨g, 0, none⟩)]) rfl (enters_of Tryd.func83 (by kernel_rfl) rfl) (fun _ => rfl)
        (runs_iter wc (g + 1) g bT c a b (t c) (hT.bd c) hA cB hTc' (by omega) (by omega)) w.heap.size (by omega) (fun k hk => by rcases hk with rfl | rfl <;> omega) (fun k hk => by rw [List.mem_singleton.1 hk]; exact ⟨by omega, hA.isCells⟩)
        (SomeC w a b FW bc c p (holdsTo t lo N p c)) (fun _ _ _ _ => False) (SomeA w bT a b FW bc c p (holdsTo t lo N p c)) ?hFc (fun _ _ _ _ _ _ h _ _ => h) ?hFa (bc :: someM w.heap.size v) ⟨v, rfl, by simpa [rowHolds] using hV2, hc, hbc2⟩ ?hM0 ?assign ?body ?done (fun _ _ _ _ _ h => h.elim)
      case hFc =>
        rintro s M B B' T ⟨v, rfl, hv, hb, hl⟩ hm ht
        exact ⟨v, rfl, hv.mod hm (fun t e => ⟨fun e' => (ht t e).1 (List.mem_cons_of_mem _ e'), (ht t e).2⟩), boxMod hb hm (fun e => (ht _ e).1 (List.mem_cons_self ..)), hl⟩
      case hFa =>
        rintro s x a' M B B' T ⟨v, b9, u12, u13, u14, u15, u16, u17, u18, u19, u20, u21, u22, u34, rfl, hv, hb, hl, h9, rfl⟩ hm ht
        exact ⟨v, b9, u12, u13, u14, u15, u16, u17, u18, u19, u20, u21, u22, u34, rfl, hv.mod hm (fun t e => ⟨fun e' => (ht t e).1 (List.mem_cons_of_mem _ (List.mem_cons_of_mem _ e')), (ht t e).2⟩), boxMod hb hm (fun e => (ht _ e).1 (List.mem_cons_of_mem _ (List.mem_cons_self ..))), hl, h9.mod hm (fun e => (ht _ e).1 (List.mem_cons_self ..)), rfl⟩
      case hM0 =>
        intro k hk
        have hic : IsCells wc k := by
          rcases List.mem_cons.1 hk with e | e
          · subst e; exact boxCells hc
          · exact hV2.cells k e
        have hkb : w.heap.size ≤ k ∧ k ≤ bc := by
          simp only [someM, List.mem_cons] at hk
          rcases hk with e | e | e | e | e
          · omega
          · omega
          · omega
          · omega
          · have := hvl k (by simpa using e); omega
        exact ⟨hic, by simp; omega, by omega⟩
      case assign =>
        rintro l pre x M W Kk ⟨v1, rfl, hv, hb, hl⟩ hKk
        have h9 := Arr.new' W #[.int .i64 x.1, .int .i64 x.2.1] 23 2 (rgF x.1 x.2.1) rfl (fun i hi => by
          match i, hi with
          | 0, _ | 1, _ => rfl)
        have md : Mod [] W (W.alloc (.cells #[.int .i64 x.1, .int .i64 x.2.1] 23)) := (Mod.refl _ _).alloc _
        have H9 := Lib.hid h9
        have HM := Lib.hid md
        clear h9 md
        unfold runEnc
        gi_wp2
        refine hKk _ (W.heap.size :: bc :: someM w.heap.size v1) _ ⟨v1, W.heap.size, _, _, _, _, _, _, _, _, _, _, _, _, rfl, hv.mod HM.out (by simp), boxMod hb HM.out (by simp), hl, H9.out, rfl⟩ HM.out.nil ?_
        intro k hk
        rcases List.mem_cons.1 hk with e | e
        · subst e; exact ⟨H9.out.isCells, .inr (Nat.le_refl _)⟩
        · rcases List.mem_cons.1 e with e2 | e2
          · subst e2; exact ⟨boxCells (boxMod hb HM.out (by simp)), .inl (List.mem_cons_self ..)⟩
          · exact ⟨(hv.cells k e2).mod HM.out (by simp), .inl (List.mem_cons_of_mem _ e2)⟩
      case body =>
        rintro l pre x a' M W ⟨v1, b9, u12, u13, u14, u15, u16, u17, u18, u19, u20, u21, u22, u34, rfl, hv, hb, hl, h9, rfl⟩ hx
        unfold someF
        have e5 := hv.b1.cell
        rw [HFW.out] at e5
        have e8 := hb.cell
        have hwW := hw c x.2.2 W hlt hx.2.2.2 hv.md
        cases hp : p c x.2.2 with
        | false =>
          rw [hp] at hwW
          have HW := Lib.hid hwW
          clear hwW
          gi_wp2_with (refine ⟨rfl, ((callsIn_wide.2 HW.out).inRound l).mono ?_⟩; rintro e w' ⟨rfl, rfl⟩)
          refine ⟨bc :: someM w.heap.size v1, ⟨v1, rfl, ?_, hb, hl⟩, Mod.refl _ _, someNew hv (.inr (boxCells hb)) (fun k hk => List.mem_cons_of_mem _ hk) (.inl rfl)⟩
          have e : holdOf p c x = [] := by simp [holdOf, hp]
          rw [rowHolds_snoc, e, List.append_nil]
          exact hv
        | true =>
          rw [hp] at hwW
          have HW := Lib.hid hwW
          clear hwW
          have e7 := hv.b2.cell
          have f7 := hv.b2.frozen
          have d0 : W.cell? ⟨b9, 0, none⟩ = some (.int .i64 x.1) := h9.cell 0 (by omega)
          have d1 : W.cell? ⟨b9, 1, none⟩ = some (.int .i64 x.2.1) := h9.cell 1 (by omega)
          gi_upto_region 9 with (refine ⟨rfl, ((callsIn_wide.2 HW.out).inRound l).mono ?_⟩; rintro e w' ⟨rfl, rfl⟩)
          refine wpIn_list_round (by kernel_rfl) (fun ⟨_, _, h⟩ => h) ?_
          have eH : holdOf p c x = [(x.1, x.2.1, c, x.2.2)] := by simp [holdOf, hp]
          obtain ⟨Lp, hLp⟩ : ∃ Lp : List HoldT, Lp = holdsTo t lo N p c ++ rowHolds p c pre := ⟨_, rfl⟩
          rw [← hLp] at hv
          have HLp := Lib.hid hLp
          have hlenL : Lp.length ≤ 100000 := by
            rw [hLp]
            have h1 := holdsTo_len t lo N p c
            have h2 := rowHolds_len p c pre
            have h3 := hx.1
            have h4 : c * N ≤ 8 * 256 := Nat.mul_le_mul (by omega) hN
            simp only [List.length_append]
            omega
          clear hLp
          have hown1 : (W.alloc (.cells #[.int .i64 x.1, .int .i64 x.2.1, .int .i64 c, .int .i64 x.2.2] 39)).ownsRow w.heap.size 39 4 v1 Lp.length (hcells Lp) :=
            own_mod hv.own ((Mod.refl [] W).alloc _) (by simp)
          have hc4 : ∀ (j : Nat) u, (hcell (x.1, x.2.1, c, x.2.2))[j]? = some u → (W.alloc (.cells #[.int .i64 x.1, .int .i64 x.2.1, .int .i64 c, .int .i64 x.2.2] 39)).cell? ⟨W.heap.size, j, none⟩ = some u := by
            intro j u hj
            match j with
            | 0 | 1 | 2 | 3 => simp [hcell] at hj; subst hj; simp
            | j + 4 => simp [hcell] at hj
          have hWs := hv.md.size
          have HAPP := Lib.hid (fun (w1 : World) (g cap : Nat) h1 h2 => hv.app (w1 := w1) (o := .cells #[.int .i64 x.1, .int .i64 x.2.1, .int .i64 c, .int .i64 x.2.2] 39) (h := (x.1, x.2.1, c, x.2.2)) (v' := .slice (some ⟨g, 0, none⟩) (Lp.length + 1) cap) (g := g) (cap := cap) h1 h2 rfl)
          have hown' := Lib.hid hown1
          have hc4' := Lib.hid hc4
          clear hown1 hc4
          go_wp2_with (at_builtin; refine app1 w.heap.size 31 39 (.agg #[.int .i64 0, .int .i64 0, .int .i64 0, .int .i64 0]) 4 32 Tryd.underlying31 info_hold rfl (by omega) (by omega) rfl _ _ rfl v1 _ _ rfl hown'.out W.heap.size (hcell (x.1, x.2.1, c, x.2.2)) rfl rfl hc4'.out (by simp [hcell, Value.oneCell']) (by omega) (by simp; omega) ?_; intro g1 cap1 w1 ho2 hm2 hgg hbg; obtain ⟨⟨q1, q2⟩, q3, q4⟩ := HAPP.out w1 g1 cap1 ho2 hm2)
          have hbo : bc ∉ someM w.heap.size v1 := fun e => by
            simp only [someM, List.mem_cons] at e
            rcases e with e | e | e | e
            · omega
            · omega
            · omega
            · have := own_type hv.own bc e _ _ hb
              revert this
              decide
          refine ⟨bc :: someM w.heap.size (.slice (some ⟨g1, 0, none⟩) (Lp.length + 1) cap1), ⟨_, rfl, by rw [rowHolds_snoc, eH, ← List.append_assoc, ← HLp.out]; exact q3, boxMod hb q4 hbo, hl⟩, q4.mono (fun k hk => List.mem_cons_of_mem _ (List.mem_cons_of_mem _ hk)), someNew q3 (.inr (boxCells (boxMod hb q4 hbo))) (fun k hk => List.mem_cons_of_mem _ hk) (.inr (fun k hk => ?_))⟩
          simp [Value.ownBlock] at hk
          subst hk
          rcases hgg with h | h
          · exact .inl (by rw [h]; simp)
          · exact .inr (by rw [h]; simp)
      case done =>
        rintro xs M W hS ⟨v1, rfl, hv, hb, hl⟩ hold hD hlt3 hnm
        rw [HLO.out, HNN.out] at hS
        subst hS
        have hMk : Marks w.heap.size ({ target := .collected wc.heap.size, args := #[] } :: ds) W :=
          .cons (by omega) hD (fun d hd e => by have := hM2.lt d hd _ e; omega) (hM2.keep (fun D hD _ => hold D _ hD rfl))
        have HMk := Lib.hid hMk
        have HV := Lib.hid hv
        clear hMk hv hold hD hM2 hV2 hA hB hc hTc hTc' cB
        go_wp2
        exact HK.out _ _ _ _ _ _ _ _ _ _ _ _ _ _ hlt HV.out HMk.out
  · obtain rfl : c = 8 := by omega
    clear HK
    have e7 := hV.b2.cell
    have HM := Lib.hid hM
    have HV := Lib.hid hV
    clear hM hV
    go_wp2
    refine leaves_marks ds wr HM.out (fun W' T hT hd => ⟨_, results_tmp rfl _ _ _, ⟨v, rfl, ?_, HV.out.md.fresh hT (fun t e => .inr (hd t e).1)⟩, Nat.le_trans HV.out.md.size hT.size⟩)
    refine own_mod HV.out.own hT (fun k hk e => ?_)
    obtain ⟨_, h2 | ⟨g, cap, cur, hv, hg, hh, _⟩⟩ := HV.out.own
    · rw [h2.1] at hk; simp [Value.ownBlock] at hk
    · rw [hv] at hk
      simp [Value.ownBlock] at hk
      subst hk
      have := (hd g e).2
      rw [hh] at this
      cases this
end Go.Proofs.YtijjbkkcienfgaaDoor
