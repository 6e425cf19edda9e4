/- A new service of the document; the program's answer as the document's; are two answers the same? No condition beyond what stands in each. Two answers that are one are the same; both services side by side. No condition beyond what stands in each. -/
import Derived.Test.YtijjbkkcienfgaaDoorRgD
namespace Go.Proofs.YtijjbkkcienfgaaDoor.Rf
open Go.RowKit
set_option linter.unusedVariables false
set_option linter.unusedSimpArgs false
attribute [local go_sem ↓] Go.wp_at_zero Go.wp_at_succ

def mkF (rT bB : Nat) (v : Value) (i : Nat) : Value := if i = 0 then .pointer (some ⟨rT, 0, none⟩) else if i = 1 then .pointer (some ⟨bB, 0, none⟩) else if i = 2 then .slice none 0 0 else if i = 3 then .int .i64 0 else v
/-- The document's service while nobody recovers anybody is laid. -/
structure RMk (w wr : World) (sv rT bB gT gS gD cap k : Nat) (v : Value) : Prop where
  a : Arr wr sv 68 5 (mkF rT bB v)
  t : Boxed wr rT 64 (.slice none 0 0)
  b : RBk wr bB gT gS gD cap u0 s0 d0
  o : wr.ownsRow w.heap.size 3 1 v k (List.replicate k (.int .i64 (-1)))
  m : Mod [] w wr
  lo : w.heap.size ≤ sv ∧ w.heap.size ≤ rT ∧ w.heap.size ≤ bB ∧ w.heap.size ≤ gT ∧ w.heap.size ≤ gS ∧ w.heap.size ≤ gD
  ne : ∀ q, v.ownBlock = some q → q ≠ gT ∧ q ≠ gS
theorem box_arr {w : World} {r T : Nat} {v : Value} (h : Boxed w r T v) : Arr w r T 1 (fun _ => v) := ⟨#[v], h, by simp, fun i hi => by
  obtain rfl : i = 0 := by omega
  rfl⟩
theorem rmk_next {w wr w1 : World} {sv rT bB gT gS gD cap k : Nat} {v : Value} {g c1 : Nat} (h : RMk w wr sv rT bB gT gS gD cap k v)
    (o1 : w1.ownsRow w.heap.size 3 1 (.slice (some ⟨g, 0, none⟩) (k + 1) c1) (k + 1) (List.replicate k (.int .i64 (-1)) ++ [.int .i64 (-1)])) (m1 : Mod v.ownBlock.toList (wr.alloc (.cells #[.int .i64 (-1)] 3)) w1)
    (hg : v.ownBlock = some g ∨ g = (wr.alloc (.cells #[.int .i64 (-1)] 3)).heap.size) :
    Arr w1 sv 68 5 (mkF rT bB v) ∧ RMk w (w1.setCell ⟨sv, 4, none⟩ (.slice (some ⟨g, 0, none⟩) (k + 1) c1)) sv rT bB gT gS gD cap (k + 1) (.slice (some ⟨g, 0, none⟩) (k + 1) c1) := by
  have B := h.b
  have T := box_arr h.t
  have far := own_far h.o
  have n1 := own_notArr h.o h.a (by decide)
  have n2 := own_notArr h.o T (by decide)
  have n3 := own_notArr h.o B.arr (by decide)
  have n6 := own_notArr h.o B.rD (by decide)
  have n4 : gT ∉ v.ownBlock.toList := fun e => (h.ne gT (by simpa using e)).1 rfl
  have n5 : gS ∉ v.ownBlock.toList := fun e => (h.ne gS (by simpa using e)).2 rfl
  have ma : Mod [] wr (wr.alloc (.cells #[.int .i64 (-1)] 3)) := (Mod.refl _ _).alloc _
  have a1 := (h.a.mod ma (by simp)).mod m1 n1
  have ms : Mod [sv] w1 (w1.setCell ⟨sv, 4, none⟩ (.slice (some ⟨g, 0, none⟩) (k + 1) c1)) := (Mod.refl _ _).setCell (.inl (by simp)) _
  have e1 := arr_ne T h.a (by decide)
  have e2 := arr_ne B.arr h.a (by decide)
  have e3 := arr_ne B.rT h.a (by decide)
  have e4 := arr_ne B.rS h.a (by decide)
  have e5 := arr_ne B.rD h.a (by decide)
  have hsz := h.a.lt
  have l4 := B.rT.lt
  have l5 := B.rS.lt
  have hgs : g ≠ sv := fun e => by
    subst e
    exact own_notArr o1 a1 (by decide) (by simp [Value.ownBlock])
  refine ⟨a1, (a1.set 4 _).congr fun j hj => ?_, boxMod (boxMod (boxMod h.t ma (by simp)) m1 n2) ms (by simpa using e1), ((B.mod ma (by simp) (by simp) (by simp) (by simp)).mod m1 n3 n4 n5 n6).mod ms (by simpa using e2) (by simpa using e3) (by simpa using e4) (by simpa using e5), ?_, ?_, h.lo, fun q hq => ?_⟩
  · match j, hj with
    | 0, _ | 1, _ | 2, _ | 3, _ | 4, _ => rfl
  · rw [List.replicate_succ']
    exact own_mod o1 ms (fun q hq e => by
      have e := List.mem_singleton.1 e
      have h9 : g = q := by simpa [Value.ownBlock] using hq
      omega)
  · exact ((h.m.trans ma).fresh m1 (fun q hq => .inr (far q hq))).fresh ms (fun q hq => .inr (by have := List.mem_singleton.1 hq; have := h.lo.1; omega))
  · have h9 : g = q := by simpa [Value.ownBlock] using hq
    subst h9
    rcases hg with hg | hg
    · exact h.ne g hg
    · simp at hg
      exact ⟨by omega, by omega⟩
def RNewP (w : World) (X : List Nat) (N0 : Nat) (e : Ending) (w' : World) : Prop :=
  ∃ sv rT bB gT gS gD cap gy cy, e = .returned (.pointer (some ⟨sv, 0, none⟩)) ∧ RSv w' X N0 sv rT bB gT gS gD cap gy cy (.slice none 0 0) GS.new ∧ Mod [] w w'
theorem rmk_end {w wr : World} {X : List Nat} {N0 sv rT bB gT gS gD cap : Nat} {v : Value} (hX : ∀ z, z ∈ X → z < w.heap.size) (hN : N0 ≤ w.heap.size) (h : RMk w wr sv rT bB gT gS gD cap 8 v) : RNewP w X N0 (.returned (.pointer (some ⟨sv, 0, none⟩))) wr := by
  obtain ⟨g, c1, rfl, hg, hc, hm, ha⟩ := own_arr h.o (by omega)
  have hne := h.ne g rfl
  obtain ⟨l1, l2, l3, l4, l5, l6⟩ := h.lo
  refine ⟨sv, rT, bB, gT, gS, gD, cap, g, c1, rfl, ⟨h.a, ⟨⟨.slice none 0 0, h.t, ?_, (fun k hk => by cases hk)⟩, fun _ _ => Nat.zero_le _⟩, h.b, own_nil _ _ _ _, (fun k hk => by cases hk), ha.congr fun i hi => ?_, hne.1, hne.2, ⟨hc, by unfold maxLen at hm; omega⟩, inv_new, fun z hz => ?_⟩, h.m⟩
  · have : listL (fun _ _ => 0) = [] := holds_none 8 (fun _ _ _ _ _ => rfl)
    show wr.ownsRow 0 _ 4 _ (listL (fun _ _ => 0)).length (hcells (listL (fun _ _ => 0)))
    rw [this]
    exact own_nil _ _ _ _
  · show (List.replicate 8 (Value.int .i64 (-1))).getD i undef = .int .i64 (-1)
    rw [List.getD_eq_getElem?_getD, List.getElem?_replicate, if_pos (by omega)]
    rfl
  · simp only [RbL, List.mem_cons, List.not_mem_nil, or_false] at hz
    have hz : w.heap.size ≤ z := by rcases hz with e | e | e | e | e | e | e <;> omega
    exact ⟨fun e => by have := hX z e; omega, by omega⟩
theorem info_int1 : (Tryd.prog.info? 3).map (fun i => (i.zero, i.size, i.bytes)) = some (some (.int .i64 0), 1, 8) := by kernel_rfl
set_option maxRecDepth 100000 in
set_option maxHeartbeats 4000000 in
theorem rnew_calls (w : World) (X : List Nat) (N0 : Nat) (hX : ∀ z, z ∈ X → z < w.heap.size) (hN : N0 ≤ w.heap.size) : Calls Tryd.prog 20 #[] w (RNewP w X N0) := by
  obtain ⟨w1, hw1⟩ : ∃ w1, w1 = w.alloc (.cells #[.slice none 0 0] 64) := ⟨_, rfl⟩
  have m1 : Mod [] w w1 := by rw [hw1]; exact (Mod.refl _ _).alloc _
  have b1 : Boxed w1 w.heap.size 64 (.slice none 0 0) := by rw [hw1]; exact heap_alloc_new _ _
  have s1 : w1.heap.size = w.heap.size + 1 := by rw [hw1]; simp
  have HW1 := Lib.hid hw1
  have M1 := Lib.hid m1
  have B1 := Lib.hid b1
  have S1 := Lib.hid s1
  have HX := Lib.hid hX
  have HN := Lib.hid hN
  have NB := Lib.hid (rbNew_calls w1)
  clear hw1 m1 b1 s1 hX hN
  go_enter Tryd.func20, Tryd.ntmps20
  go_wp2_with fail
  rw [← HW1.out]
  refine NB.out.mono ?_
  rintro e w2 ⟨bB, gT, gS, gD, cap, rfl, hB, m2, l3, l4, l5, l6⟩
  have st : RMk w (w2.alloc (.cells #[.pointer (some ⟨w.heap.size, 0, none⟩), .pointer (some ⟨bB, 0, none⟩), .slice none 0 0, .int .i64 0, .slice none 0 0] 68)) w2.heap.size w.heap.size bB gT gS gD cap 0 (.slice none 0 0) := by
    have ma : Mod [] w2 (w2.alloc (.cells #[.pointer (some ⟨w.heap.size, 0, none⟩), .pointer (some ⟨bB, 0, none⟩), .slice none 0 0, .int .i64 0, .slice none 0 0] 68)) := (Mod.refl _ _).alloc _
    have := S1.out
    have := m2.size
    refine ⟨Arr.new' w2 _ _ 5 _ rfl (fun i hi => by
      match i, hi with
      | 0, _ | 1, _ | 2, _ | 3, _ | 4, _ => rfl), boxMod (boxMod B1.out m2 (by simp)) ma (by simp), hB.mod ma (by simp) (by simp) (by simp) (by simp), own_nil _ _ _ _, (M1.out.trans m2).trans ma, ⟨by omega, by omega, by omega, by omega, by omega, by omega⟩, fun q hq => by cases hq⟩
  have ST := Lib.hid st
  clear hB m2 l3 l4 l5 l6 st
  go_wp2
  generalize w2.heap.size = sv at *
  go_loopw [2] (fun i wr => ∃ (k : Nat) (v : Value), k ≤ 8 ∧ i = .int .i64 k ∧ RMk w wr sv w.heap.size bB gT gS gD cap k v) (fun i _ => 8 - (intOf i).toNat)
  case atStart => exact ⟨0, _, by omega, rfl, ST.out⟩
  case round =>
    obtain ⟨k, v, hk, rfl, H⟩ := hrel
    have c4 := H.a.cell 4 (by omega)
    simp only [mkF, if_true, if_false, Nat.reduceEqDiff] at c4
    by_cases hlt : k < 8
    · have hk1 : (k : Int) < 8 := by omega
      have l1 := H.a.lt
      have HH := Lib.hid H
      have HO := Lib.hid (own_mod H.o ((Mod.refl [] wr).alloc (.cells #[.int .i64 (-1)] 3)) (fun _ _ => by simp))
      have HC := Lib.hid (new_cell1 wr (.int .i64 (-1)) 3 wr.heap.size rfl)
      have hsz := H.m.size
      clear H
      go_wp2_with (at_builtin; refine app1 w.heap.size 32 3 (.int .i64 0) 1 8 Tryd.underlying32 info_int1 rfl (by omega) (by omega) rfl _ _ rfl v _ _ rfl HO.out wr.heap.size [.int .i64 (-1)] rfl rfl (news1 HC.out) (by simp [Value.oneCell']) (by omega) (by simp; omega) ?_; intro g cap1 w3 ho2 hm2 hg hbg; obtain ⟨ha, hR⟩ := rmk_next HH.out ho2 hm2 hg; have hca := ha.cell 4 (by omega); have hfr := ha.free 4; have HR := Lib.hid hR; clear ha hR ho2 hm2 hg hbg; simp only [mkF, if_true, if_false, Nat.reduceEqDiff] at hca)
      go_roundw
      case rel => exact ⟨k + 1, _, by omega, by go_num, HR.out⟩
      case measure => simp [intOf]; omega
    · obtain rfl : k = 8 := by omega
      have FIN := Lib.hid (rmk_end HX.out HN.out H)
      clear H
      go_wp2
      go_ret
      exact FIN.out
/-! ### the program's answer, as the document's -/
structure ThI (w wr : World) (e n : Int) (gv rv dv u : Value) (L : List (Nat × HoldT)) : Prop where
  a : Arr wr w.heap.size 34 5 (ansF e n gv rv dv)
  z : Arr wr (w.heap.size + 1) 57 5 (ansF 0 0 (.slice none 0 0) (.slice none 0 0) (.slice none 0 0))
  b : Arr wr (w.heap.size + 2) 57 5 (ansF e n u rv dv)
  o : wr.ownsRow w.heap.size 105 5 u L.length (gcells L)
  m : Mod [] w wr
theorem thi_start (w : World) (e n : Int) (gv rv dv : Value) :
    ThI w (((w.alloc (.cells #[.int .i64 e, .int .i64 n, gv, rv, dv] 34)).alloc (.cells #[.int .i64 0, .int .i64 0, .slice none 0 0, .slice none 0 0, .slice none 0 0] 57)).alloc (.cells #[.int .i64 e, .int .i64 n, .slice none 0 0, rv, dv] 57)) e n gv rv dv (.slice none 0 0) [] := by
  have A1 := ans_new w e n gv rv dv
  have Z1 := rans_new (w.alloc (.cells #[.int .i64 e, .int .i64 n, gv, rv, dv] 34)) 0 0 (.slice none 0 0) (.slice none 0 0) (.slice none 0 0)
  have B1 := rans_new ((w.alloc (.cells #[.int .i64 e, .int .i64 n, gv, rv, dv] 34)).alloc (.cells #[.int .i64 0, .int .i64 0, .slice none 0 0, .slice none 0 0, .slice none 0 0] 57)) e n (.slice none 0 0) rv dv
  have e1 : (w.alloc (.cells #[.int .i64 e, .int .i64 n, gv, rv, dv] 34)).heap.size = w.heap.size + 1 := by simp
  have e2 : ((w.alloc (.cells #[.int .i64 e, .int .i64 n, gv, rv, dv] 34)).alloc (.cells #[.int .i64 0, .int .i64 0, .slice none 0 0, .slice none 0 0, .slice none 0 0] 57)).heap.size = w.heap.size + 2 := by simp
  rw [e1] at Z1
  rw [e2] at B1
  exact ⟨(A1.alloc _).alloc _, Z1.alloc _, B1, own_nil _ _ _ _, (((Mod.refl _ _).alloc _).alloc _).alloc _⟩
theorem thi_next {w wr w6 : World} {e n : Int} {gv rv dv u : Value} {L : List (Nat × HoldT)} {y : Nat × HoldT} {g c1 : Nat} (h : ThI w wr e n gv rv dv u L) {w2 : World} (m2 : Mod [] wr w2)
    (ho : w6.ownsRow w.heap.size 105 5 (.slice (some ⟨g, 0, none⟩) (L.length + 1) c1) (L.length + 1) (gcells L ++ gcell y)) (m6 : Mod u.ownBlock.toList w2 w6) :
    Arr w6 (w.heap.size + 2) 57 5 (ansF e n u rv dv) ∧ ThI w (w6.setCell ⟨w.heap.size + 2, 2, none⟩ (.slice (some ⟨g, 0, none⟩) (L.length + 1) c1)) e n gv rv dv (.slice (some ⟨g, 0, none⟩) (L.length + 1) c1) (L ++ [y]) := by
  have o2 := own_mod h.o m2 (fun _ _ => by simp)
  have a2 := h.a.mod m2 (by simp)
  have z2 := h.z.mod m2 (by simp)
  have b2 := h.b.mod m2 (by simp)
  have a6 := a2.mod m6 (own_notArr o2 a2 (by decide))
  have z6 := z2.mod m6 (own_notArr o2 z2 (by decide))
  have b6 := b2.mod m6 (own_notArr o2 b2 (by decide))
  have ms : Mod [w.heap.size + 2] w6 (w6.setCell ⟨w.heap.size + 2, 2, none⟩ (.slice (some ⟨g, 0, none⟩) (L.length + 1) c1)) := (Mod.refl _ _).setCell (.inl (by simp)) _
  refine ⟨b6, a6.mod ms (by simp), z6.mod ms (by simp), (b6.set 2 _).congr fun j hj => ?_, ?_, ((h.m.trans m2).fresh m6 (fun q hq => .inr (own_far h.o q hq))).fresh ms (fun q hq => .inr (by have := List.mem_singleton.1 hq; omega))⟩
  · match j, hj with
    | 0, _ | 1, _ | 2, _ | 3, _ | 4, _ => rfl
  · rw [gcells_snoc, List.length_append]
    exact own_mod ho ms (fun q hq e => own_notArr ho b6 (by decide) (by simp at e; subst e; simpa using hq))
theorem thi_end {w wr : World} {e n : Int} {gv rv dv : Value} {p : Option Addr} {c : Nat} {L : List (Nat × HoldT)} (h : ThI w wr e n gv rv dv (.slice p L.length c) L) :
    (put5 wr (w.heap.size + 1) (.int .i64 e) (.int .i64 n) (.slice p L.length c) rv dv).ownsRow w.heap.size 105 5 (.slice p L.length c) L.length (gcells L) ∧ Mod [] w (put5 wr (w.heap.size + 1) (.int .i64 e) (.int .i64 n) (.slice p L.length c) rv dv) := by
  have m2 := put5_mod wr (w.heap.size + 1) (.int .i64 e) (.int .i64 n) (.slice p L.length c) rv dv
  exact ⟨own_mod h.o m2 (fun q hq e => own_notArr h.o h.z (by decide) (by simp at e; subst e; simpa using hq)), h.m.fresh m2 (fun q hq => .inr (by have := List.mem_singleton.1 hq; omega))⟩
theorem gcells_get : ∀ (L : List (Nat × HoldT)) (i : Nat) (h : Nat × HoldT), L[i]? = some h → ∀ (j : Nat) (v : Value), (gcell h)[j]? = some v → (gcells L)[i * 5 + j]? = some v
  | [], i, h, hi, j, v, hj => by simp at hi
  | a :: L, i, h, hi, j, v, hj => by
    show (gcell a ++ gcells L)[i * 5 + j]? = some v
    have hl : (gcell a).length = 5 := rfl
    cases i with
    | zero =>
      simp at hi
      subst hi
      rw [List.getElem?_append_left (by have := (List.getElem?_eq_some_iff.1 hj).1; omega), Nat.zero_mul, Nat.zero_add]
      exact hj
    | succ i =>
      rw [List.getElem?_append_right (by omega), hl, show (i + 1) * 5 + j - 5 = i * 5 + j by omega]
      exact gcells_get L i h (by simpa using hi) j v hj
theorem own_grants {w : World} {base n : Nat} {e : TypeId} {p : Option Addr} {cap : Nat} {L : List (Nat × HoldT)} (h : w.ownsRow base e 5 (.slice p n cap) n (gcells L)) (hn : n = L.length) :
    n ≤ cap ∧ cap ≤ 9223372036854775807 ∧ (0 < n → ∃ g, p = some ⟨g, 0, none⟩ ∧ base ≤ g ∧ ∀ i x, L[i]? = some x → w.cell? ⟨g, i * 5, none⟩ = some (.int .i64 (x.1 : Nat)) ∧ w.cell? ⟨g, i * 5 + 1, none⟩ = some (.int .i64 x.2.1) ∧ w.cell? ⟨g, i * 5 + 2, none⟩ = some (.int .i64 x.2.2.1) ∧ w.cell? ⟨g, i * 5 + 3, none⟩ = some (.int .i64 x.2.2.2.1) ∧ w.cell? ⟨g, i * 5 + 4, none⟩ = some (.int .i64 x.2.2.2.2)) := by
  obtain ⟨h1, ⟨h2, h3⟩ | ⟨g, cap', cur, e1, hg, hh, hc, hm, hs, hx⟩⟩ := id h
  · injection h2 with a b c
    subst c
    exact ⟨by omega, by omega, fun hh => by omega⟩
  · injection e1 with a b c
    subst a c
    refine ⟨hc, by unfold maxLen at hm; omega, fun _ => ⟨g, rfl, hg, fun i x hx2 => ?_⟩⟩
    have key : ∀ j v, (gcell x)[j]? = some v → w.cell? ⟨g, i * 5 + j, none⟩ = some v := fun j v hj => (own_cell h (gcells_get L i x hx2 j v hj)).1
    exact ⟨key 0 _ rfl, key 1 _ rfl, key 2 _ rfl, key 3 _ rfl, key 4 _ rfl⟩
theorem gread {w : World} {b : Nat} {T : TypeId} {gp : Option Addr} {gc : Nat} {L : List (Nat × HoldT)} (hg : w.ownsRow b T 5 (.slice gp L.length gc) L.length (gcells L)) {i : Nat} {x : Nat × HoldT} (hx : L[i]? = some x) :
    ∃ g, gp = some ⟨g, 0, none⟩ ∧ w.cell? ⟨g, i * 5, none⟩ = some (.int .i64 (x.1 : Nat)) ∧ w.cell? ⟨g, i * 5 + 1, none⟩ = some (.int .i64 x.2.1) ∧ w.cell? ⟨g, i * 5 + 2, none⟩ = some (.int .i64 x.2.2.1) ∧ w.cell? ⟨g, i * 5 + 3, none⟩ = some (.int .i64 x.2.2.2.1) ∧ w.cell? ⟨g, i * 5 + 4, none⟩ = some (.int .i64 x.2.2.2.2) := by
  have hlt := (List.getElem?_eq_some_iff.1 hx).1
  obtain ⟨_, _, h⟩ := own_grants hg rfl
  obtain ⟨g, e, _, hc⟩ := h (by omega)
  exact ⟨g, e, hc i x hx⟩
set_option maxRecDepth 100000 in
set_option maxHeartbeats 4000000 in
theorem theirs_calls (w : World) (b : Nat) (e n : Int) (gp rp dp : Option Addr) (gc rn rc dn dc : Nat) (L : List (Nat × HoldT)) (hg : w.ownsRow b 71 5 (.slice gp L.length gc) L.length (gcells L)) (hL : L.length ≤ 1000) :
    Calls Tryd.prog 22 #[.agg #[.int .i64 e, .int .i64 n, .slice gp L.length gc, .slice rp rn rc, .slice dp dn dc]] w fun r w' =>
      ∃ p c, r = .returned (.agg #[.int .i64 e, .int .i64 n, .slice p L.length c, .slice rp rn rc, .slice dp dn dc]) ∧ w'.ownsRow w.heap.size 105 5 (.slice p L.length c) L.length (gcells L) ∧ Mod [] w w' := by
  have ST := Lib.hid (thi_start w e n (.slice gp L.length gc) (.slice rp rn rc) (.slice dp dn dc))
  have HG := Lib.hid hg
  have hgn : L.length ≤ gc ∧ gc ≤ 9223372036854775807 := by
    obtain ⟨h1, h2, _⟩ := own_grants hg rfl
    exact ⟨h1, h2⟩
  obtain ⟨hgn1, hgn2⟩ := hgn
  clear hg
  go_enter Tryd.func22, Tryd.ntmps22
  go_wp2
  go_loopw [4] (fun i wr => ∃ (k : Nat) (u : Value), k ≤ L.length ∧ i = .int .i64 k ∧ ThI w wr e n (.slice gp L.length gc) (.slice rp rn rc) (.slice dp dn dc) u (L.take k)) (fun i _ => L.length - (intOf i).toNat)
  case atStart => exact ⟨0, _, Nat.zero_le _, rfl, ST.out⟩
  case round =>
    obtain ⟨k, u, hk, rfl, hI⟩ := hrel
    have a2 := hI.a.cell 2 (by omega)
    have b2 := hI.b.cell 2 (by omega)
    simp only [ansF, if_true, if_false, Nat.reduceEqDiff] at a2 b2
    have hsz := hI.b.lt
    by_cases hlt : k < L.length
    · obtain ⟨y, hy⟩ : ∃ y, L[k]? = some y := ⟨_, List.getElem?_eq_getElem hlt⟩
      obtain ⟨g, rfl, y0, y1, y2, y3, y4⟩ := gread HG.out hy
      replace y0 := hI.m.cell' y0 (by simp)
      replace y1 := hI.m.cell' y1 (by simp)
      replace y2 := hI.m.cell' y2 (by simp)
      replace y3 := hI.m.cell' y3 (by simp)
      replace y4 := hI.m.cell' y4 (by simp)
      have i0 : (0 : Int) ≤ (k : Int) := by omega
      have i1 : (k : Int) < (L.length : Int) := by omega
      have HI := Lib.hid hI
      have eT : L.take (k + 1) = L.take k ++ [y] := by rw [List.take_succ_eq_append_getElem hlt, (List.getElem?_eq_some_iff.1 hy).2]
      have ET := Lib.hid eT
      have mA : Mod [] wr.drew (wr.drew.alloc (.cells #[.int .i64 (y.1 : Nat), .int .i64 y.2.1, .int .i64 y.2.2.1, .int .i64 y.2.2.2.1, .int .i64 y.2.2.2.2] 105)) := (Mod.refl _ _).alloc _
      have HMA := Lib.hid ((Mod.refl [] wr).drew.trans mA)
      have HO := Lib.hid (own_mod hI.o ((Mod.refl [] wr).drew.trans mA) (fun _ _ => by simp))
      have HN := Lib.hid (gnews_r wr.drew y)
      obtain ⟨gi, hi, hz, hz1, hz2⟩ := info_parts info_rgrant
      have htl : (L.take k).length = k := by simp; omega
      have HTL := Lib.hid htl
      have hml : (L.take k).length + 1 ≤ maxLen := by unfold maxLen; omega
      have hby : ((L.take k).length + 1) * 40 ≤ 140737488355328 := by omega
      have hbase : w.heap.size ≤ (wr.drew.alloc (.cells #[.int .i64 (y.1 : Nat), .int .i64 y.2.1, .int .i64 y.2.2.1, .int .i64 y.2.2.2.1, .int .i64 y.2.2.2.2] 105)).heap.size := by
        have h1 := hI.m.size; have h2 := mA.size; have h7 : wr.drew.heap.size = wr.heap.size := rfl; omega
      clear hI hy eT mA htl
      go_wp2
      first
        | (go_region_law (refine step_append_lies _ rfl _ _ 55 rfl w.heap.size 105 gi (.agg #[.int .i64 0, .int .i64 0, .int .i64 0, .int .i64 0, .int .i64 0]) 5 40 Tryd.underlying55 hi hz hz1 hz2 rfl (by omega) u _ _ rfl HO.out ⟨wr.heap.size, 0, none⟩ 1 1 (gcell y) rfl rfl HN.out (by simp [gcell, Value.oneCell']) (by omega) hml hby hbase (wr.heap.size + 1) (by simp) ?_; intro g1 cap1 w6 ho6 hm6 hg6 hlt6; obtain ⟨b6, t6⟩ := thi_next HI.out HMA.out ho6 (mod_grown hm6); have c6 := b6.cell 2 (by omega); have f6 := b6.free 2; simp only [ansF, if_true, if_false, Nat.reduceEqDiff] at c6))
        | fail
      all_goals
        have HT := Lib.hid t6
        clear b6 t6 c6 f6 ho6 hm6 hg6 hlt6
        go_wp2
        go_roundw
        case rel => exact ⟨k + 1, _, by omega, by go_num, by rw [ET.out]; have h9 := HT.out; rw [HTL.out] at h9; exact h9⟩
        case measure => simp [intOf]; omega
    · obtain rfl : k = L.length := by omega
      have hlt' : decide ((L.length : Int) < (L.length : Int)) = false := by simp
      rw [List.take_length] at hI
      obtain ⟨p, c, rfl⟩ := own_len hI.o
      have HI := Lib.hid hI
      have FIN := Lib.hid (thi_end hI)
      have r0 := hI.b.cell 0 (by omega)
      have r1 := hI.b.cell 1 (by omega)
      have r3 := hI.b.cell 3 (by omega)
      have r4 := hI.b.cell 4 (by omega)
      simp only [ansF, if_true, if_false, Nat.reduceEqDiff] at r0 r1 r3 r4
      obtain ⟨g0, g1, g2, g3, g4, g5, g6, g7, g8, g9⟩ := rans_facts hI.z
      clear hI
      go_wp2
      exact bodyPost_ret (rans_res rfl rfl (put5_arr HI.out.z _ _ _ _ _)) rfl ⟨p, c, rfl, FIN.out.1, FIN.out.2⟩
end Go.Proofs.YtijjbkkcienfgaaDoor.Rf
namespace Go.Proofs.YtijjbkkcienfgaaDoor.Rf
open Go.RowKit
set_option linter.unusedVariables false
set_option linter.unusedSimpArgs false
attribute [local go_sem ↓] Go.wp_at_zero Go.wp_at_succ

theorem same_eq (w : World) (va vb : Value) (A : List HoldT) (hA : Hs w va A) (hB : Hs w vb A) :
    Calls Tryd.prog 24 #[va, vb] w fun e w' => e = .returned (.bool true) ∧ Mod [] w w' :=
  (same_calls w va vb A A hA hB).mono fun e w' h => ⟨by rw [h.1]; simp, h.2⟩
theorem same16_eq (w : World) (b b' : Nat) (va vb : Value) (Z : List Nat) (hA : w.ownsRow b 3 1 va Z.length (intsOf Z)) (hB : w.ownsRow b' 3 1 vb Z.length (intsOf Z)) :
    Calls Tryd.prog 52 #[va, vb] w fun e w' => e = .returned (.bool true) ∧ Mod [] w w' :=
  (same16_calls w va vb Z.length _ (fun i => (Z.getD i 0 : Nat)) (own_slA hA) (own_slA hB) (fun i hi => by
    show (intsOf Z).getD (i * 1 + 0) undef = _
    rw [Nat.mul_one, Nat.add_zero]
    unfold intsOf
    simp [List.getD_eq_getElem?_getD, List.getElem?_map, List.getElem?_eq_getElem hi])).mono fun e w' h => ⟨h.1, by obtain ⟨k, rfl⟩ := h.2; exact (Mod.refl _ _).drewN k⟩
set_option maxRecDepth 100000 in
set_option maxHeartbeats 4000000 in
theorem rsame_calls (w : World) (e n : Int) (b1 b2 b3 b4 b5 b6 : Nat) (p1 p2 p3 p4 p5 p6 : Option Addr) (c1 c2 c3 c4 c5 c6 : Nat) (G : List (Nat × HoldT)) (R : List HoldT) (Z : List Nat)
    (g1 : w.ownsRow b1 105 5 (.slice p1 G.length c1) G.length (gcells G)) (g2 : w.ownsRow b2 105 5 (.slice p2 G.length c2) G.length (gcells G))
    (r1 : w.ownsRow b3 39 4 (.slice p3 R.length c3) R.length (hcells R)) (r2 : w.ownsRow b4 39 4 (.slice p4 R.length c4) R.length (hcells R))
    (z1 : w.ownsRow b5 3 1 (.slice p5 Z.length c5) Z.length (intsOf Z)) (z2 : w.ownsRow b6 3 1 (.slice p6 Z.length c6) Z.length (intsOf Z)) :
    Calls Tryd.prog 23 #[.agg #[.int .i64 e, .int .i64 n, .slice p1 G.length c1, .slice p3 R.length c3, .slice p5 Z.length c5], .agg #[.int .i64 e, .int .i64 n, .slice p2 G.length c2, .slice p4 R.length c4, .slice p6 Z.length c6]] w fun r w' => r = .returned (.bool true) ∧ Mod [] w w' := by
  obtain ⟨w1, hw1⟩ : ∃ w1, w1 = (w.alloc (.cells #[.int .i64 e, .int .i64 n, .slice p1 G.length c1, .slice p3 R.length c3, .slice p5 Z.length c5] 57)).alloc (.cells #[.int .i64 e, .int .i64 n, .slice p2 G.length c2, .slice p4 R.length c4, .slice p6 Z.length c6] 57) := ⟨_, rfl⟩
  have m1 : Mod [] w w1 := by rw [hw1]; exact ((Mod.refl _ _).alloc _).alloc _
  have A1 : Arr w1 w.heap.size 57 5 (ansF e n (.slice p1 G.length c1) (.slice p3 R.length c3) (.slice p5 Z.length c5)) := by rw [hw1]; exact (rans_new w _ _ _ _ _).alloc _
  have A2 : Arr w1 (w.heap.size + 1) 57 5 (ansF e n (.slice p2 G.length c2) (.slice p4 R.length c4) (.slice p6 Z.length c6)) := by rw [hw1]; exact rans_new2 w _ _ _ _ _ _
  have HW1 := Lib.hid hw1
  have M1 := Lib.hid m1
  have S1 := Lib.hid (same_eq w1 _ _ R (hs_own (own_mod r1 m1 (fun _ _ => by simp))) (hs_own (own_mod r2 m1 (fun _ _ => by simp))))
  have S2 := Lib.hid (fun w' (m : Mod [] w1 w') => same16_eq w' b5 b6 _ _ Z (own_mod z1 (m1.trans m) (fun _ _ => by simp)) (own_mod z2 (m1.trans m) (fun _ _ => by simp)))
  have G1 := Lib.hid (fun w' (m : Mod [] w w') => own_mod g1 m (fun _ _ => by simp))
  have G2 := Lib.hid (fun w' (m : Mod [] w w') => own_mod g2 m (fun _ _ => by simp))
  have HA1 := Lib.hid A1
  have HA2 := Lib.hid A2
  have hgn1 := (own_grants g1 rfl).1
  have hgn2 := (own_grants g1 rfl).2.1
  have hgn3 := (own_grants g2 rfl).1
  have hgn4 := (own_grants g2 rfl).2.1
  have x0 := A1.cell 0 (by omega)
  have x1 := A1.cell 1 (by omega)
  have x2 := A1.cell 2 (by omega)
  have x3 := A1.cell 3 (by omega)
  have y0 := A2.cell 0 (by omega)
  have y1 := A2.cell 1 (by omega)
  have y2 := A2.cell 2 (by omega)
  have y3 := A2.cell 3 (by omega)
  simp only [ansF, if_true, if_false, Nat.reduceEqDiff] at x0 x1 x2 x3 y0 y1 y2 y3
  rw [hw1] at x0 x1 x2 x3 y0 y1 y2 y3
  clear hw1 m1 A1 A2 g1 g2 r1 r2 z1 z2
  go_enter Tryd.func23, Tryd.ntmps23
  go_wp2_with fail
  rw [← HW1.out] at *
  refine S1.out.mono ?_
  rintro r w2 ⟨rfl, m2⟩
  have B1 := HA1.out.mod m2 (by simp)
  have B2 := HA2.out.mod m2 (by simp)
  have x4 := B1.cell 4 (by omega)
  have y4 := B2.cell 4 (by omega)
  simp only [ansF, if_true, if_false, Nat.reduceEqDiff] at x4 y4
  have SC := Lib.hid (S2.out w2 m2)
  have M2 := Lib.hid (M1.out.trans m2)
  have HB1 := Lib.hid B1
  have HB2 := Lib.hid B2
  clear m2 B1 B2 x0 x1 x2 x3 y0 y1 y2 y3
  go_wp2_with fail
  refine SC.out.mono ?_
  rintro r w3 ⟨rfl, m3⟩
  have M3 := Lib.hid (M2.out.trans m3)
  have C1 := Lib.hid (HB1.out.mod m3 (by simp))
  have C2 := Lib.hid (HB2.out.mod m3 (by simp))
  clear m3 x4 y4
  go_wp2
  go_loopw [5] (fun i wr => ∃ k : Nat, k ≤ G.length ∧ i = .int .i64 k ∧ Mod [] w3 wr) (fun i _ => G.length - (intOf i).toNat)
  case atStart => exact ⟨0, Nat.zero_le _, rfl, Mod.refl _ _⟩
  case round =>
    obtain ⟨k, hk, rfl, hM⟩ := hrel
    have D1 := C1.out.mod hM (by simp)
    have D2 := C2.out.mod hM (by simp)
    have x2 := D1.cell 2 (by omega)
    have y2 := D2.cell 2 (by omega)
    simp only [ansF, if_true, if_false, Nat.reduceEqDiff] at x2 y2
    by_cases hlt : k < G.length
    · obtain ⟨y, hy⟩ : ∃ y, G[k]? = some y := ⟨_, List.getElem?_eq_getElem hlt⟩
      obtain ⟨g, rfl, q0, q1, q2, q3, q4⟩ := gread (G1.out _ (M3.out.trans hM)) hy
      obtain ⟨g', rfl, u0, u1, u2, u3, u4⟩ := gread (G2.out _ (M3.out.trans hM)) hy
      have i0 : (0 : Int) ≤ (k : Int) := by omega
      have i1 : (k : Int) < (G.length : Int) := by omega
      have HM := Lib.hid hM
      obtain ⟨n0, n1, n2, n3, n4⟩ := y
      simp only at q0 q1 q2 q3 q4 u0 u1 u2 u3 u4
      clear hM D1 D2 hy
      go_wp2
      go_quiet (fail)
      go_wp2
      go_roundw
      case rel => exact ⟨k + 1, by omega, by go_num, HM.out.drewN _⟩
      case measure => simp [intOf]; omega
    · obtain rfl : k = G.length := by omega
      have hlt' : decide ((G.length : Int) < (G.length : Int)) = false := by simp
      have HM := Lib.hid (M3.out.trans hM)
      clear hM D1 D2
      go_wp2
      go_ret
      exact ⟨rfl, HM.out⟩
/-! ### both side by side -/
theorem rsv_after {w w' : World} {N0 sv bT bB mB rs rT rB gT gS gD cap gy cy : Nat} {v v' rv : Value} {x x' : GS} {W : World} {B : Nat} (h : RSv w (SvS sv bT bB mB v) N0 rs rT rB gT gS gD cap gy cy rv x) (hv : ∀ k, v'.ownBlock = some k → v.ownBlock = some k ∨ w.heap.size ≤ k) (m : Mod (SvS sv bT bB mB v) w w') :
    RSv w' (SvS sv bT bB mB v') N0 rs rT rB gT gS gD cap gy cy rv x :=
  h.step m (fun z hz => .inl hz) (fun z hz => by
    rw [svS_of] at hz ⊢
    rcases hz with e | e | e | e | e
    · exact .inl (.inl e)
    · exact .inl (.inr (.inl e))
    · exact .inl (.inr (.inr (.inl e)))
    · exact .inl (.inr (.inr (.inr (.inl e))))
    · rcases hv z (by simpa using e) with e | e
      · exact .inl (.inr (.inr (.inr (.inr (by simpa using e)))))
      · exact .inr e)
theorem laws_after {W w w' : World} {B sv bT bB mB rs rT rB gT gS gD cap gy cy : Nat} {v rv : Value} {x x' : GS} (h : LawS W w B sv bT bB mB v x) (r : RSv w (SvS sv bT bB mB v) W.heap.size rs rT rB gT gS gD cap gy cy rv x') (m : Mod (RbL rs rT rB gT gS gD gy) w w') : LawS W w' B sv bT bB mB v x :=
  h.far m (fun k hk => ⟨(r.ap k hk).2, (r.ap k hk).1⟩)
end Go.Proofs.YtijjbkkcienfgaaDoor.Rf
