/- What set of the document's table comes to. No condition beyond what stands in it. -/
import Derived.Test.YtijjbkkcienfgaaDoorRefB
namespace Go.Proofs.YtijjbkkcienfgaaDoor
open Go.RowKit
set_option linter.unusedVariables false
set_option linter.unusedSimpArgs false
attribute [local go_sem ↓] Go.wp_at_zero Go.wp_at_succ

/-- A function of the modes 0, 1, 2, out of a list of three numbers. -/
def g3 (g0 g1 g2 m : Nat) : Nat := if m = 0 then g0 else if m = 1 then g1 else g2
theorem g3_bd {g0 g1 g2 : Nat} (h0 : g0 ≤ 2) (h1 : g1 ≤ 2) (h2 : g2 ≤ 2) : ∀ m, m ≤ 2 → g3 g0 g1 g2 m ≤ 2 := by
  intro m _
  unfold g3
  split
  · exact h0
  · split <;> assumption
/-- The mode behind which a block stands. -/
def lastM (t : Nat → Nat → Nat) (c k : Nat) : Nat := if k = 0 then 0 else t c (k - 1)
/-- In 'set': the new row so far; nothing else has changed. -/
structure SetI (w1 wr : World) (v : Value) (H : List HoldT) : Prop where
  own : wr.ownsRow w1.heap.size 39 4 v H.length (hcells H)
  md : Mod [] w1 wr
theorem SetI.same {w1 wr w' : World} {v : Value} {H : List HoldT} (h : SetI w1 wr v H) (m : Mod [] wr w') : SetI w1 w' v H := ⟨own_mod h.own m (by simp), h.md.trans m⟩
theorem SetI.grow {w1 wr w' : World} {v v' : Value} {H H' : List HoldT} (h : SetI w1 wr v H) (m : Mod v.ownBlock.toList wr w') (ho : w'.ownsRow w1.heap.size 39 4 v' H'.length (hcells H')) : SetI w1 w' v' H' :=
  ⟨ho, h.md.fresh m (fun x hx => .inr (own_lt' h.own x (by simpa using hx)).1)⟩
theorem news4 (W : World) (x : HoldT) (e : TypeId) : ∀ (j : Nat) u, (hcell x)[j]? = some u → (W.alloc (.cells #[.int .i64 x.1, .int .i64 x.2.1, .int .i64 x.2.2.1, .int .i64 x.2.2.2] e)).cell? ⟨W.heap.size, j, none⟩ = some u := by
  intro j u hj
  match j, hj with
  | 0, hj | 1, hj | 2, hj | 3, hj => simp [hcell] at hj; subst hj; simp
  | j + 4, hj => simp [hcell] at hj

set_option maxRecDepth 100000 in
set_option maxHeartbeats 4000000 in
theorem rset_calls (w : World) (base r gt : Nat) (t : Nat → Nat → Nat) (cl a b : Int) (g0 g1 g2 : Nat) (hT : RTab w base r t) (b0 : g0 ≤ 2) (b1 : g1 ≤ 2) (b2 : g2 ≤ 2)
    (h0 : w.cell? ⟨gt, 0, none⟩ = some (.int .i64 g0)) (h1 : w.cell? ⟨gt, 1, none⟩ = some (.int .i64 g1)) (h2 : w.cell? ⟨gt, 2, none⟩ = some (.int .i64 g2)) (hb : base ≤ w.heap.size) :
    Calls Tryd.prog 74 #[.pointer (some ⟨r, 0, none⟩), .int .i64 cl, .agg #[.int .i64 a, .int .i64 b], .slice (some ⟨gt, 0, none⟩) 3 3] w fun e w' =>
      e = .returned (.tuple #[]) ∧ RTab w' base r (setT t cl a b (g3 g0 g1 g2)) ∧ Mod [r] w w' := by
  obtain ⟨t', ht'⟩ : ∃ t', t' = setT t cl a b (g3 g0 g1 g2) := ⟨_, rfl⟩
  have HT' := Lib.hid ht'
  have hbd' : ∀ c k, t' c k ≤ 2 := by rw [ht']; exact setT_bd hT.bd _ _ _ (g3_bd b0 b1 b2)
  have HBD := Lib.hid hbd'
  obtain ⟨w1, hw1⟩ : ∃ w1, w1 = w.alloc (.cells #[.int .i64 a, .int .i64 b] 23) := ⟨_, rfl⟩
  have M1 : Mod [] w w1 := by rw [hw1]; exact (Mod.refl [] w).alloc _
  have HM1 := Lib.hid M1
  have HTab := Lib.hid (hT.same M1)
  have k0 : w1.cell? ⟨w.heap.size, 0, none⟩ = some (.int .i64 a) := by rw [hw1]; simp
  have k1 : w1.cell? ⟨w.heap.size, 1, none⟩ = some (.int .i64 b) := by rw [hw1]; simp
  have K0 := Lib.hid k0
  have K1 := Lib.hid k1
  have T0 := Lib.hid (M1.cell' h0 (by simp))
  have T1 := Lib.hid (M1.cell' h1 (by simp))
  have T2 := Lib.hid (M1.cell' h2 (by simp))
  have s1 : w.heap.size + 1 = w1.heap.size := by rw [hw1]; simp
  rw [ht'.symm]
  have HW1 := Lib.hid hw1
  have S1 := Lib.hid s1
  clear ht' hbd' M1 k0 k1 h0 h1 h2 hT hw1 s1
  go_enter Tryd.func74, Tryd.ntmps74
  go_wp2
  rw [← HW1.out, S1.out]
  have I0 : SetI w1 (w1.alloc (.cells #[] 39)) (.slice (some ⟨w1.heap.size, 0, none⟩) 0 0) (holdsTo t' 0 256 pAll 0) :=
    ⟨⟨by simp [hcells, holdsTo], .inr ⟨w1.heap.size, 0, #[], rfl, Nat.le_refl _, heap_alloc_new _ _, by simp [holdsTo], by unfold maxLen; omega, rfl, by simp [hcells, holdsTo]⟩⟩, (Mod.refl [] w1).alloc _⟩
  have HI := Lib.hid I0
  clear I0
  go_loopw [8, 9] (fun v i wr => ∃ c : Nat, c ≤ 8 ∧ i = .int .i64 c ∧ SetI w1 wr v (holdsTo t' 0 256 pAll c)) (fun _ i _ => 8 - (intOf i).toNat)
  case atStart => exact ⟨0, Nat.zero_le _, rfl, HI.out⟩
  case round =>
    obtain ⟨c, hc8, rfl, hI⟩ := hrel
    by_cases hlt : c < 8
    · have i8 : (c : Int) < 8 := by omega
      have hI0 : SetI w1 wr u8 (upto t' c 0) := by rw [upto_zero]; exact hI
      have HI0 := Lib.hid hI0
      clear hI hI0 HI
      go_wp2
      obtain ⟨wo, hwo⟩ : ∃ wo : World, wo = wr := ⟨_, rfl⟩
      rw [← hwo] at HI0 ⊢
      clear hwo
      go_loopw [8, 10, 11] (fun v l i wr => ∃ k : Nat, k ≤ 256 ∧ i = .int .i64 k ∧ l = .int .i64 (lastM t' c k : Nat) ∧ SetI w1 wr v (upto t' c k)) (fun _ _ i _ => 256 - (intOf i).toNat)
      case atStart => exact ⟨0, Nat.zero_le _, rfl, rfl, HI0.out⟩
      case round =>
        obtain ⟨k, hk, rfl, rfl, hI⟩ := hrel
        clear HI0
        by_cases hlt2 : k < 256
        · have i9 : (k : Int) < 256 := by omega
          obtain ⟨m, hm⟩ : ∃ m, m = t' c k := ⟨_, rfl⟩
          have hm0 := HTab.out.bd c k
          have hm2 : m ≤ 2 := by rw [hm]; exact HBD.out c k
          have hat : t' c k = if (c : Int) = cl ∧ a ≤ k ∧ (k : Int) < b then g3 g0 g1 g2 (t c k) else t c k := by rw [HT'.out]; exact setT_at _ _ _ _ _ hlt hlt2
          have ways : ((c : Int) = cl ∧ a ≤ (k : Int) ∧ (k : Int) < b ∧ g3 g0 g1 g2 (t c k) = m) ∨ (¬ (c : Int) = cl ∧ t c k = m) ∨ ((c : Int) = cl ∧ ¬ a ≤ (k : Int) ∧ t c k = m) ∨ ((c : Int) = cl ∧ a ≤ (k : Int) ∧ ¬ (k : Int) < b ∧ t c k = m) := by
            rw [hm, hat]
            by_cases e1 : (c : Int) = cl
            · by_cases e2 : a ≤ (k : Int)
              · by_cases e3 : (k : Int) < b
                · rw [if_pos ⟨e1, e2, e3⟩]; exact .inl ⟨e1, e2, e3, rfl⟩
                · rw [if_neg (fun h => e3 h.2.2)]; exact .inr (.inr (.inr ⟨e1, e2, e3, rfl⟩))
              · rw [if_neg (fun h => e2 h.2.1)]; exact .inr (.inr (.inl ⟨e1, e2, rfl⟩))
            · rw [if_neg (fun h => e1 h.1)]; exact .inr (.inl ⟨e1, rfl⟩)
          obtain ⟨q, hq⟩ : ∃ q, q = lastM t' c k := ⟨_, rfl⟩
          have hnext : lastM t' c (k + 1) = m := by unfold lastM; rw [if_neg (by omega), hm]; rfl
          have steps : (m = 0 ∧ upto t' c (k + 1) = upto t' c k) ∨ (0 < m ∧ q = m ∧ ∃ l x, upto t' c k = l ++ [(x, k, c, m)] ∧ upto t' c (k + 1) = l ++ [(x, k + 1, c, m)]) ∨ (0 < m ∧ q ≠ m ∧ upto t' c (k + 1) = upto t' c k ++ [(k, k + 1, c, m)]) := by
            by_cases e0 : m = 0
            · exact .inl ⟨e0, upto_none (by rw [← hm]; exact e0)⟩
            · by_cases e1 : q = m
              · refine .inr (.inl ⟨by omega, e1, ?_⟩)
                unfold lastM at hq
                by_cases e2 : k = 0
                · rw [if_pos e2] at hq; omega
                · rw [if_neg e2] at hq
                  rw [hm]
                  exact upto_more (by rw [← hm]; exact e0) e2 (by rw [← hq, e1, hm])
              · refine .inr (.inr ⟨by omega, e1, ?_⟩)
                rw [hm]
                refine upto_new (by rw [← hm]; exact e0) ?_
                unfold lastM at hq
                by_cases e2 : k = 0
                · exact .inl e2
                · rw [if_neg e2] at hq
                  exact .inr (fun h => e1 (by rw [hq, h, hm]))
          have hlen := upto_len t' hlt (k := k) (by omega)
          rw [← hq]
          have HNX := Lib.hid hnext
          have HI1 := Lib.hid hI
          have HST := Lib.hid steps
          have HWY := Lib.hid ways
          clear hat hI hm hq hnext steps ways
          go_wp2_with fail
          refine (mode_calls _ base r t _ _ (HTab.out.same HI1.out.md)).mono ?_
          rintro e w5 ⟨rfl, m5⟩
          rw [rmode_at hlt hlt2]
          have hI5 := HI1.out.same m5
          have k0 := hI5.md.cell' K0.out (by simp)
          have k1 := hI5.md.cell' K1.out (by simp)
          have yy : w5.cell? ⟨gt, t c k, none⟩ = some (.int .i64 (g3 g0 g1 g2 (t c k) : Nat)) := by
            have y0 := hI5.md.cell' T0.out (by simp)
            have y1 := hI5.md.cell' T1.out (by simp)
            have y2 := hI5.md.cell' T2.out (by simp)
            have : t c k = 0 ∨ t c k = 1 ∨ t c k = 2 := by omega
            rcases this with h | h | h
            · rw [h]; exact y0
            · rw [h]; exact y1
            · rw [h]; exact y2
          have HI5 := Lib.hid hI5
          obtain ⟨m0, hmm⟩ : ∃ m0, m0 = t c k := ⟨_, rfl⟩
          rw [← hmm] at yy hm0 ⊢
          have ways2 : (((c : Int) == cl) = true ∧ a ≤ (k : Int) ∧ (k : Int) < b ∧ w5.cell? ⟨gt, m0, none⟩ = some (.int .i64 (m : Nat))) ∨ (((c : Int) == cl) = false ∧ m = m0) ∨ (((c : Int) == cl) = true ∧ decide (a ≤ (k : Int)) = false ∧ m = m0) ∨ (((c : Int) == cl) = true ∧ a ≤ (k : Int) ∧ decide ((k : Int) < b) = false ∧ m = m0) := by
            rcases HWY.out with ⟨e1, e2, e3, e4⟩ | ⟨e1, e4⟩ | ⟨e1, e2, e4⟩ | ⟨e1, e2, e3, e4⟩
            · exact .inl ⟨by simpa using e1, e2, e3, by rw [yy, hmm, e4]⟩
            · exact .inr (.inl ⟨by simpa using e1, by rw [hmm, e4]⟩)
            · exact .inr (.inr (.inl ⟨by simpa using e1, by simpa using e2, by rw [hmm, e4]⟩))
            · exact .inr (.inr (.inr ⟨by simpa using e1, e2, by simpa using e3, by rw [hmm, e4]⟩))
          have j0 : (0 : Int) ≤ (m0 : Int) := by omega
          have j1 : (m0 : Int) < 3 := by omega
          clear m5 hI5 HI1 HWY yy hmm
          rcases ways2 with ⟨e1, e2, e3, yy⟩ | ⟨e1, e4⟩ | ⟨e1, e2, e4⟩ | ⟨e1, e2, e3, e4⟩
          all_goals (try subst e4)
          all_goals
            rcases HST.out with ⟨f0, f1⟩ | ⟨f0, f1, l, x, f2, f3⟩ | ⟨f0, f1, f2⟩
            · obtain rfl := f0
              have FIN := Lib.hid (show SetI w1 w5 u8 (upto t' c (k + 1)) by rw [f1]; exact HI5.out)
              clear f1 HST
              go_wp2
              go_roundw
              case rel => exact ⟨k + 1, by omega, by go_num, by rw [HNX.out]; rfl, FIN.out⟩
              case measure => simp [intOf]; omega
            · obtain rfl := f1
              have ho := HI5.out.own
              rw [f2] at ho
              obtain ⟨g, cap, rfl, hg1, hg2, hg3, hg4⟩ := own_last ho
              have hcl : cap ≤ 9223372036854775807 := by unfold maxLen at hg4; omega
              have hl2 : l.length + 1 ≤ 2048 := by rw [f2] at hlen; simpa using hlen
              have ho' : w5.ownsRow w1.heap.size 39 4 (.slice (some ⟨g, 0, none⟩) (l.length + 1) cap) (l.length + 1) (hcells (l ++ [(x, k, c, q)])) := by simpa using ho
              have hc := own_cell (i := l.length * 4 + 1) (u := .int .i64 k) ho' (by
                rw [hcells_append, ← hcells_len, List.getElem?_append_right (by omega), Nat.add_sub_cancel_left]
                rfl)
              have hs := own_set (i := l.length * 4 + 1) (.int .i64 ((k + 1 : Nat) : Int)) ho' (by omega)
              rw [hcells_set] at hs
              have FIN := Lib.hid (show SetI w1 (w5.setCell ⟨g, l.length * 4 + 1, none⟩ (.int .i64 ((k + 1 : Nat) : Int))) (.slice (some ⟨g, 0, none⟩) (l.length + 1) cap) (upto t' c (k + 1)) by
                rw [f3]
                exact HI5.out.grow ((Mod.refl _ _).setCell (.inl (by simp [Value.ownBlock])) _) (by simpa using hs))
              obtain ⟨hc1, hc2⟩ := hc
              obtain ⟨N, hN⟩ : ∃ N, N = l.length := ⟨_, rfl⟩
              rw [← hN] at hc1 hc2 FIN hg3 hl2 ⊢
              rw [Int.natCast_succ] at FIN
              clear hN ho ho' hs f2 f3 HST hg4 hlen
              go_wp2
              go_roundw
              case rel => exact ⟨k + 1, by omega, by go_num, by rw [HNX.out], FIN.out⟩
              case measure => simp [intOf]; omega
            · have n1 : ((m : Int) == (q : Int)) = false := by simp; omega
              have n2 : ((m : Int) != (q : Int)) = true := by simp; omega
              have ho1 := own_mod HI5.out.own ((Mod.refl [] w5).alloc (.cells #[.int .i64 k, .int .i64 ((k : Int) + 1), .int .i64 c, .int .i64 m] 39)) (by simp)
              have hN4 := news4 w5 (k, k + 1, c, m) 39
              dsimp only at hN4
              rw [Int.natCast_succ] at hN4
              have HO := Lib.hid ho1
              have HN4 := Lib.hid hN4
              have lo5 := HI5.out.md.size
              have F2 := Lib.hid f2
              clear ho1 hN4 f1 f2 HST
              go_wp2_with (at_builtin; refine app1 w1.heap.size 31 39 (.agg #[.int .i64 0, .int .i64 0, .int .i64 0, .int .i64 0]) 4 32 Tryd.underlying31 info_hold rfl (by omega) (by omega) rfl _ _ rfl u8 _ _ rfl HO.out w5.heap.size (hcell (k, k + 1, c, m)) rfl rfl HN4.out (by simp [hcell, Value.oneCell']) (by omega) (by simp; omega) ?_; intro g9 cap9 w9 ho9 hm9 hg9 hb9)
              have FIN := Lib.hid (show SetI w1 w9 (.slice (some ⟨g9, 0, none⟩) ((upto t' c k).length + 1) cap9) (upto t' c (k + 1)) by
                rw [F2.out]
                refine (HI5.out.same ((Mod.refl [] w5).alloc _)).grow hm9 ?_
                rw [hcells_append, List.length_append, show hcells [(k, k + 1, c, m)] = hcell (k, k + 1, c, m) by simp [hcells]]
                exact ho9)
              clear ho9 hm9 hg9 hb9
              go_wp2
              go_roundw
              case rel => exact ⟨k + 1, by omega, by go_num, by rw [HNX.out], FIN.out⟩
              case measure => simp [intOf]; omega
        · obtain rfl : k = 256 := by omega
          have hlt' : decide ((256 : Int) < 256) = false := by simp
          rw [upto_all] at hI
          have HI1 := Lib.hid hI
          clear hI
          go_wp2
          go_roundw
          case rel => exact ⟨c + 1, by omega, by go_num, HI1.out⟩
          case measure => simp [intOf]; omega
    · obtain rfl : c = 8 := by omega
      have hlt' : decide ((8 : Int) < 8) = false := by simp
      obtain ⟨p8, cap8, rfl, -⟩ := own_holds' hI.own
      obtain ⟨v, hbx, -⟩ := (HTab.out.same hI.md).ex
      have hc := hbx.cell
      have hl := hbx.lt
      have hr1 : r < w1.heap.size := by
        obtain ⟨v', hbx', -⟩ := HTab.out.ex
        exact hbx'.lt
      have hfz : wr.frozen? ⟨r, 0, none⟩ = false := by simp [World.frozen?, show wr.heap[r]? = _ from hbx]
      have hs := S1.out
      have FIN : RTab (wr.setCell ⟨r, 0, none⟩ (.slice p8 (holdsTo t' 0 256 pAll 8).length cap8)) base r t' := by
        refine ⟨⟨_, hbx.set _, own_base (own_mod hI.own ((Mod.refl [r] wr).setCell (by simp) _) (fun k hk => ?_)) (by omega)⟩, HBD.out⟩
        have := own_lt' hI.own k hk
        simp
        omega
      have MF : Mod [r] w (wr.setCell ⟨r, 0, none⟩ (.slice p8 (holdsTo t' 0 256 pAll 8).length cap8)) := (HM1.out.trans hI.md).nil.setCell (by simp) _
      have HF := Lib.hid FIN
      have HMF := Lib.hid MF
      clear FIN MF hI hbx hs
      go_wp2
      go_end0
      exact ⟨rfl, HF.out, HMF.out⟩
end Go.Proofs.YtijjbkkcienfgaaDoor
