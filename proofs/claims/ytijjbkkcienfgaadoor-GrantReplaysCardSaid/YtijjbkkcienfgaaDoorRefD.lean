/- What Against and Some of the document's table come to. No condition beyond what stands in each. -/
import Derived.Test.YtijjbkkcienfgaaDoorRefC
namespace Go.Proofs.YtijjbkkcienfgaaDoor
open Go.RowKit
set_option linter.unusedVariables false
set_option linter.unusedSimpArgs false
attribute [local go_sem ↓] Go.wp_at_zero Go.wp_at_succ

theorem news4g (W : World) (a b c m : Nat) (e : TypeId) (k : Nat) (hk : W.heap.size = k) : ∀ (j : Nat) u, (hcell (a, b, c, m))[j]? = some u → (W.alloc (.cells #[.int .i64 a, .int .i64 b, .int .i64 c, .int .i64 m] e)).cell? ⟨k, j, none⟩ = some u := by
  subst hk
  exact news4 W (a, b, c, m) e
theorem setI_more {w1 wr w9 : World} {v : Value} {L : List HoldT} {f : HoldT → Option HoldT} {i g cap : Nat} {x y : HoldT} (h : SetI w1 wr v ((L.take i).filterMap f)) (hx : L[i]? = some x) (hf : f x = some y) (m : Mod v.ownBlock.toList wr w9)
    (ho : w9.ownsRow w1.heap.size 39 4 (.slice (some ⟨g, 0, none⟩) (((L.take i).filterMap f).length + 1) cap) (((L.take i).filterMap f).length + 1) (hcells ((L.take i).filterMap f) ++ hcell y)) :
    SetI w1 w9 (.slice (some ⟨g, 0, none⟩) (((L.take i).filterMap f).length + 1) cap) ((L.take (i + 1)).filterMap f) := by
  rw [clip_snoc hx, hf]
  refine h.grow m ?_
  rw [hcells_append, List.length_append, show hcells (some y).toList = hcell y by simp [hcells]]
  exact ho
theorem setI_skip {w1 wr w9 : World} {v : Value} {L : List HoldT} {f : HoldT → Option HoldT} {i : Nat} {x : HoldT} (h : SetI w1 wr v ((L.take i).filterMap f)) (hx : L[i]? = some x) (hf : f x = none) (m : Mod [] wr w9) : SetI w1 w9 v ((L.take (i + 1)).filterMap f) := by
  rw [clip_snoc hx, hf]
  simpa using h.same m
theorem setI_zero (w1 : World) (L : List HoldT) (f : HoldT → Option HoldT) : SetI w1 (w1.alloc (.cells #[] 39)) (.slice (some ⟨w1.heap.size, 0, none⟩) 0 0) ((L.take 0).filterMap f) :=
  ⟨⟨by simp [hcells], .inr ⟨w1.heap.size, 0, #[], rfl, Nat.le_refl _, heap_alloc_new _ _, by simp, by unfold maxLen; omega, rfl, by simp [hcells]⟩⟩, (Mod.refl [] w1).alloc _⟩

set_option maxRecDepth 100000 in
set_option maxHeartbeats 4000000 in
theorem ragainst_calls (w : World) (base r : Nat) (t : Nat → Nat → Nat) (a b hc hm : Int) (hT : RTab w base r t) :
    Calls Tryd.prog 73 #[.pointer (some ⟨r, 0, none⟩), .agg #[.int .i64 a, .int .i64 b, .int .i64 hc, .int .i64 hm]] w (SomeP w (someL t a b (pAg hc hm))) := by
  obtain ⟨w1, hw1⟩ : ∃ w1, w1 = w.alloc (.cells #[.int .i64 a, .int .i64 b, .int .i64 hc, .int .i64 hm] 39) := ⟨_, rfl⟩
  have M1 : Mod [] w w1 := by rw [hw1]; exact (Mod.refl [] w).alloc _
  have K0 := Lib.hid (show w1.cell? ⟨w.heap.size, 0, none⟩ = some (.int .i64 a) by rw [hw1]; simp)
  have K1 := Lib.hid (show w1.cell? ⟨w.heap.size, 1, none⟩ = some (.int .i64 b) by rw [hw1]; simp)
  have K2 := Lib.hid (show w1.cell? ⟨w.heap.size, 2, none⟩ = some (.int .i64 hc) by rw [hw1]; simp)
  have K3 := Lib.hid (show w1.cell? ⟨w.heap.size, 3, none⟩ = some (.int .i64 hm) by rw [hw1]; simp)
  have S1 := Lib.hid (show w.heap.size + 1 = w1.heap.size by rw [hw1]; simp)
  obtain ⟨v, hbx, ho⟩ := (hT.same M1).ex
  obtain ⟨p, cap, rfl, hn, hcap, hcell⟩ := own_holds' ho
  have Z0 := Lib.hid (hbx.cell : w1.cell? ⟨r, 0, none⟩ = some (.slice p (listL t).length cap))
  have HM1 := Lib.hid M1
  have HW1 := Lib.hid hw1
  have HE := Lib.hid (some_clip t a b (pAg hc hm))
  obtain ⟨L, hL⟩ : ∃ L, L = listL t := ⟨_, rfl⟩
  rw [← hL] at Z0 hcell hn HE
  have HL := Lib.hid hL
  have hLn : L.length ≤ 2048 := by
    rw [hL]
    exact holdsTo_len t 0 256 pAll 8
  obtain ⟨n, hN⟩ : ∃ n, n = L.length := ⟨_, rfl⟩
  rw [← hN] at Z0 hcell hn
  have HN := Lib.hid hN
  obtain ⟨f, hf⟩ : ∃ f, f = clipH (max a 0).toNat (min b 256).toNat (pAg hc hm) := ⟨_, rfl⟩
  have HF := Lib.hid hf
  rw [← hf] at HE
  have I0 := Lib.hid (setI_zero w1 L f)
  clear hN hL hw1 M1 hT ho hbx hf
  go_enter Tryd.func73, Tryd.ntmps73
  go_wp2
  rw [← HW1.out, S1.out]
  go_loopw [5, 6] (fun v i wr => ∃ j : Nat, j ≤ n ∧ i = .int .i64 j ∧ SetI w1 wr v ((L.take j).filterMap f)) (fun _ i _ => n - (intOf i).toNat)
  case atStart => exact ⟨0, Nat.zero_le _, rfl, I0.out⟩
  case round =>
    obtain ⟨j, hj, rfl, hI⟩ := hrel
    clear I0
    have z0 := hI.md.cell' Z0.out (by simp)
    by_cases hlt : j < n
    · obtain ⟨g, rfl, hg1, hg2, hx⟩ := hcell (by omega)
      have hjL : j < L.length := by rw [← HN.out]; exact hlt
      obtain ⟨⟨x1, x2, x3, x4⟩, hh⟩ : ∃ h, L[j]? = some h := ⟨_, List.getElem?_eq_getElem hjL⟩
      obtain ⟨y0, y1, y2, y3⟩ := hx j _ hh
      dsimp only at y0 y1 y2 y3
      replace y0 := hI.md.cell' y0 (by simp)
      replace y1 := hI.md.cell' y1 (by simp)
      replace y2 := hI.md.cell' y2 (by simp)
      replace y3 := hI.md.cell' y3 (by simp)
      have k0 := hI.md.cell' K0.out (by simp)
      have k1 := hI.md.cell' K1.out (by simp)
      have k2 := hI.md.cell' K2.out (by simp)
      have k3 := hI.md.cell' K3.out (by simp)
      have hgl := World.block_lt_of_cell? wr _ y0
      have hkl := World.block_lt_of_cell? wr _ k0
      have i0 : (0 : Int) ≤ (j : Int) := by omega
      have i1 : (j : Int) < (n : Int) := by omega
      have hlen : ((L.take j).filterMap f).length ≤ 2048 := by
        have h1 := List.length_filterMap_le f (L.take j)
        have h2 : (L.take j).length ≤ L.length := by simp; omega
        omega
      have hmem : (x1, x2, x3, x4) ∈ listL t := by rw [← HL.out]; exact List.mem_of_getElem? hh
      have HH := Lib.hid hh
      have HI := Lib.hid hI
      clear hx hh hI hcell
      go_wp2_with fail
      refine (meet_calls _ _ _ _ _).mono ?_
      rintro e z ⟨rfl, mz⟩
      have MZ : Mod [] wr z := ((Mod.refl [] wr).alloc _).trans mz
      have hzs : wr.heap.size < z.heap.size := by have := mz.size; simp at this; omega
      have c0 : z.cell? ⟨wr.heap.size, 0, none⟩ = some (.int .i64 x1) := mz.cell' (by simp) (by simp)
      have c1 : z.cell? ⟨wr.heap.size, 1, none⟩ = some (.int .i64 x2) := mz.cell' (by simp) (by simp)
      have c2 : z.cell? ⟨wr.heap.size, 2, none⟩ = some (.int .i64 x3) := mz.cell' (by simp) (by simp)
      have c3 : z.cell? ⟨wr.heap.size, 3, none⟩ = some (.int .i64 x4) := mz.cell' (by simp) (by simp)
      replace k2 := MZ.cell' k2 (by simp)
      replace k3 := MZ.cell' k3 (by simp)
      have hkz : w.heap.size < z.heap.size := by omega
      have HMZ := Lib.hid MZ
      clear y0 y1 y2 y3 k0 k1 mz MZ
      have cases4 : ((x3 : Int) ≠ hc ∧ max (x1 : Int) a < min (x2 : Int) b ∧ (x4 = 2 ∨ hm = 2)) ∨ ((x3 : Int) = hc) ∨ ((x3 : Int) ≠ hc ∧ ¬ max (x1 : Int) a < min (x2 : Int) b) ∨ ((x3 : Int) ≠ hc ∧ max (x1 : Int) a < min (x2 : Int) b ∧ x4 ≠ 2 ∧ hm ≠ 2) := by
        by_cases e1 : (x3 : Int) = hc
        · exact .inr (.inl e1)
        · by_cases e2 : max (x1 : Int) a < min (x2 : Int) b
          · by_cases e3 : x4 = 2 ∨ hm = 2
            · exact .inl ⟨e1, e2, e3⟩
            · exact .inr (.inr (.inr ⟨e1, e2, fun h => e3 (.inl h), fun h => e3 (.inr h)⟩))
          · exact .inr (.inr (.inl ⟨e1, e2⟩))
      rcases cases4 with ⟨e1, e2, e3⟩ | e1 | ⟨e1, e2⟩ | ⟨e1, e2, e3, e4⟩
      · obtain ⟨e5, e6, e7⟩ := meet_of hmem a b e2
        dsimp only at e5 e6 e7
        have hfx : f (x1, x2, x3, x4) = some (max x1 (max a 0).toNat, min x2 (min b 256).toNat, x3, x4) := by
          rw [HF.out]
          unfold clipH
          rw [if_pos ⟨by (simp only [pAg, Bool.and_eq_true, Bool.or_eq_true, decide_eq_true_eq]; exact ⟨e1, e3⟩), e5⟩]
        obtain ⟨m1, hm1⟩ : ∃ m1, m1 = max x1 (max a 0).toNat := ⟨_, rfl⟩
        obtain ⟨m2, hm2⟩ : ∃ m2, m2 = min x2 (min b 256).toNat := ⟨_, rfl⟩
        rw [← hm1, ← hm2] at hfx e5
        rw [e6, e7, ← hm1, ← hm2]
        have HFX := Lib.hid hfx
        have HO := Lib.hid (own_mod HI.out.own ((HMZ.out.alloc (.cells #[.int .i64 m1, .int .i64 m2] 23)).alloc (.cells #[.int .i64 m1, .int .i64 m2, .int .i64 x3, .int .i64 x4] 39)) (by simp))
        have HN4 := Lib.hid (news4g (z.alloc (.cells #[.int .i64 m1, .int .i64 m2] 23)) m1 m2 x3 x4 39 (z.heap.size + 1) (by simp))
        have lo5 := HI.out.md.size
        have f1 : ((x3 : Int) != hc) = true := by simpa using e1
        have f2 : (m1 : Int) < (m2 : Int) := by omega
        have hb2 : ((x4 : Int) == 2) = true ∨ (((x4 : Int) == 2) = false ∧ (hm == 2) = true) := by
          by_cases e8 : x4 = 2
          · exact .inl (by simp; omega)
          · exact .inr ⟨by simp; omega, by simp; omega⟩
        clear e1 e3
        clear hm1 hm2 e6 e7 hfx e2
        rcases hb2 with f3 | ⟨f3, f4⟩
        all_goals
          go_wp2_with (at_builtin; refine app1 w1.heap.size 31 39 (.agg #[.int .i64 0, .int .i64 0, .int .i64 0, .int .i64 0]) 4 32 Tryd.underlying31 info_hold rfl (by omega) (by omega) rfl _ _ rfl u5 _ _ rfl HO.out (z.heap.size + 1) (hcell (m1, m2, x3, x4)) rfl rfl HN4.out (by simp [hcell, Value.oneCell']) (by omega) (by simp; omega) ?_; intro g9 cap9 w9 ho9 hm9 hg9 hb9)
          have FIN := Lib.hid (setI_more (HI.out.same ((HMZ.out.alloc _).alloc _)) HH.out HFX.out hm9 ho9)
          clear ho9 hm9 hg9 hb9 HN4 HO HI
          go_wp2
          go_roundw
          case rel => exact ⟨j + 1, by omega, by go_num, FIN.out⟩
          case measure => simp [intOf]; omega
      · have hfx : f (x1, x2, x3, x4) = none := by
          rw [HF.out]
          unfold clipH
          rw [if_neg (by (simp only [pAg, e1]; simp))]
        have FIN := Lib.hid (setI_skip HI.out HH.out hfx (HMZ.out.alloc (.cells #[.int .i64 (max (x1 : Int) a), .int .i64 (min (x2 : Int) b)] 23)))
        obtain ⟨X1, hX1⟩ : ∃ X1, X1 = max (x1 : Int) a := ⟨_, rfl⟩
        obtain ⟨X2, hX2⟩ : ∃ X2, X2 = min (x2 : Int) b := ⟨_, rfl⟩
        rw [← hX1, ← hX2] at FIN ⊢
        have f1 : ((x3 : Int) != hc) = false := by simpa using e1
        clear e1
        clear hX1 hX2 hfx HI
        go_wp2
        go_roundw
        case rel => exact ⟨j + 1, by omega, by go_num, FIN.out⟩
        case measure => simp [intOf]; omega
      · have e5 := meet_not hmem a b e2
        dsimp only at e5
        have hfx : f (x1, x2, x3, x4) = none := by
          rw [HF.out]
          unfold clipH
          rw [if_neg (by exact fun h => e5 h.2)]
        have FIN := Lib.hid (setI_skip HI.out HH.out hfx (HMZ.out.alloc (.cells #[.int .i64 (max (x1 : Int) a), .int .i64 (min (x2 : Int) b)] 23)))
        obtain ⟨X1, hX1⟩ : ∃ X1, X1 = max (x1 : Int) a := ⟨_, rfl⟩
        obtain ⟨X2, hX2⟩ : ∃ X2, X2 = min (x2 : Int) b := ⟨_, rfl⟩
        rw [← hX1, ← hX2] at FIN ⊢
        have f1 : ((x3 : Int) != hc) = true := by simpa using e1
        have f2 : decide (X1 < X2) = false := by rw [hX1, hX2]; simpa using e2
        clear e1 e2 e5
        clear hX1 hX2 hfx HI
        go_wp2
        go_roundw
        case rel => exact ⟨j + 1, by omega, by go_num, FIN.out⟩
        case measure => simp [intOf]; omega
      · have hfx : f (x1, x2, x3, x4) = none := by
          rw [HF.out]
          unfold clipH
          rw [if_neg (by (simp only [pAg, Bool.and_eq_true, Bool.or_eq_true, decide_eq_true_eq]; exact fun h => h.1.2.elim e3 e4))]
        have FIN := Lib.hid (setI_skip HI.out HH.out hfx (HMZ.out.alloc (.cells #[.int .i64 (max (x1 : Int) a), .int .i64 (min (x2 : Int) b)] 23)))
        obtain ⟨X1, hX1⟩ : ∃ X1, X1 = max (x1 : Int) a := ⟨_, rfl⟩
        obtain ⟨X2, hX2⟩ : ∃ X2, X2 = min (x2 : Int) b := ⟨_, rfl⟩
        rw [← hX1, ← hX2] at FIN ⊢
        have f1 : ((x3 : Int) != hc) = true := by simpa using e1
        have f2 : X1 < X2 := by rw [hX1, hX2]; exact e2
        have f3 : ((x4 : Int) == 2) = false := by simp; omega
        have f4 : (hm == 2) = false := by simpa using e4
        clear e1 e2 e3 e4
        clear hX1 hX2 hfx HI
        go_wp2
        go_roundw
        case rel => exact ⟨j + 1, by omega, by go_num, FIN.out⟩
        case measure => simp [intOf]; omega
    · obtain rfl : j = n := by omega
      have hlt' : decide (j < j) = false := by simp
      have hF : SomeP w (someL t a b (pAg hc hm)) (.returned u5) wr := by
        have h1 := hI.own
        rw [show (L.take j) = L by rw [HN.out]; simp, ← HE.out] at h1
        exact ⟨_, rfl, own_base h1 (by have := S1.out; omega), HM1.out.trans hI.md⟩
      have HF' := Lib.hid hF
      clear hF hI
      go_wp2
      go_ret
      exact HF'.out
set_option maxRecDepth 100000 in
set_option maxHeartbeats 4000000 in
theorem rsome_calls (w : World) (base r : Nat) (t : Nat → Nat → Nat) (a b cl mo : Int) (p : Nat → Nat → Bool) (hp : ∀ c m : Nat, p c m = (decide ((c : Int) = cl) && (decide (mo = 0) || decide ((m : Int) = mo)))) (hT : RTab w base r t) :
    Calls Tryd.prog 48 #[.pointer (some ⟨r, 0, none⟩), .int .i64 cl, .agg #[.int .i64 a, .int .i64 b], .int .i64 mo] w (SomeP w (someL t a b p)) := by
  obtain ⟨w1, hw1⟩ : ∃ w1, w1 = w.alloc (.cells #[.int .i64 a, .int .i64 b] 23) := ⟨_, rfl⟩
  have M1 : Mod [] w w1 := by rw [hw1]; exact (Mod.refl [] w).alloc _
  have K0 := Lib.hid (show w1.cell? ⟨w.heap.size, 0, none⟩ = some (.int .i64 a) by rw [hw1]; simp)
  have K1 := Lib.hid (show w1.cell? ⟨w.heap.size, 1, none⟩ = some (.int .i64 b) by rw [hw1]; simp)
  have S1 := Lib.hid (show w.heap.size + 1 = w1.heap.size by rw [hw1]; simp)
  obtain ⟨v, hbx, ho⟩ := (hT.same M1).ex
  obtain ⟨pp, cap, rfl, hn, hcap, hcell⟩ := own_holds' ho
  have Z0 := Lib.hid (hbx.cell : w1.cell? ⟨r, 0, none⟩ = some (.slice pp (listL t).length cap))
  have HM1 := Lib.hid M1
  have HW1 := Lib.hid hw1
  have HE := Lib.hid (some_clip t a b p)
  obtain ⟨L, hL⟩ : ∃ L, L = listL t := ⟨_, rfl⟩
  rw [← hL] at Z0 hcell hn HE
  have HL := Lib.hid hL
  have hLn : L.length ≤ 2048 := by
    rw [hL]
    exact holdsTo_len t 0 256 pAll 8
  obtain ⟨n, hN⟩ : ∃ n, n = L.length := ⟨_, rfl⟩
  rw [← hN] at Z0 hcell hn
  have HN := Lib.hid hN
  obtain ⟨f, hf⟩ : ∃ f, f = clipH (max a 0).toNat (min b 256).toNat p := ⟨_, rfl⟩
  have HF := Lib.hid hf
  rw [← hf] at HE
  have I0 := Lib.hid (setI_zero w1 L f)
  have HP := Lib.hid hp
  clear hN hL hw1 M1 hT ho hbx hf hp
  go_enter Tryd.func48, Tryd.ntmps48
  go_wp2
  rw [← HW1.out, S1.out]
  go_loopw [9, 10] (fun v i wr => ∃ j : Nat, j ≤ n ∧ i = .int .i64 j ∧ SetI w1 wr v ((L.take j).filterMap f)) (fun _ i _ => n - (intOf i).toNat)
  case atStart => exact ⟨0, Nat.zero_le _, rfl, I0.out⟩
  case round =>
    obtain ⟨j, hj, rfl, hI⟩ := hrel
    clear I0
    have z0 := hI.md.cell' Z0.out (by simp)
    by_cases hlt : j < n
    · obtain ⟨g, rfl, hg1, hg2, hx⟩ := hcell (by omega)
      have hjL : j < L.length := by rw [← HN.out]; exact hlt
      obtain ⟨⟨x1, x2, x3, x4⟩, hh⟩ : ∃ h, L[j]? = some h := ⟨_, List.getElem?_eq_getElem hjL⟩
      obtain ⟨y0, y1, y2, y3⟩ := hx j _ hh
      dsimp only at y0 y1 y2 y3
      replace y0 := hI.md.cell' y0 (by simp)
      replace y1 := hI.md.cell' y1 (by simp)
      replace y2 := hI.md.cell' y2 (by simp)
      replace y3 := hI.md.cell' y3 (by simp)
      have k0 := hI.md.cell' K0.out (by simp)
      have k1 := hI.md.cell' K1.out (by simp)
      have hgl := World.block_lt_of_cell? wr _ y0
      have hkl := World.block_lt_of_cell? wr _ k0
      have i0 : (0 : Int) ≤ (j : Int) := by omega
      have i1 : (j : Int) < (n : Int) := by omega
      have hlen : ((L.take j).filterMap f).length ≤ 2048 := by
        have h1 := List.length_filterMap_le f (L.take j)
        have h2 : (L.take j).length ≤ L.length := by simp; omega
        omega
      have hmem : (x1, x2, x3, x4) ∈ listL t := by rw [← HL.out]; exact List.mem_of_getElem? hh
      have HH := Lib.hid hh
      have HI := Lib.hid hI
      clear hx hh hI hcell
      go_wp2_with fail
      refine (meet_calls _ _ _ _ _).mono ?_
      rintro e z ⟨rfl, mz⟩
      have MZ : Mod [] wr z := ((Mod.refl [] wr).alloc _).trans mz
      have hzs : wr.heap.size < z.heap.size := by have := mz.size; simp at this; omega
      have c0 : z.cell? ⟨wr.heap.size, 0, none⟩ = some (.int .i64 x1) := mz.cell' (by simp) (by simp)
      have c1 : z.cell? ⟨wr.heap.size, 1, none⟩ = some (.int .i64 x2) := mz.cell' (by simp) (by simp)
      have c2 : z.cell? ⟨wr.heap.size, 2, none⟩ = some (.int .i64 x3) := mz.cell' (by simp) (by simp)
      have c3 : z.cell? ⟨wr.heap.size, 3, none⟩ = some (.int .i64 x4) := mz.cell' (by simp) (by simp)
      have hkz : w.heap.size < z.heap.size := by omega
      have HMZ := Lib.hid MZ
      clear y0 y1 y2 y3 k0 k1 mz MZ
      have cases4 : ((x3 : Int) = cl ∧ max (x1 : Int) a < min (x2 : Int) b ∧ (mo = 0 ∨ (x4 : Int) = mo)) ∨ ((x3 : Int) ≠ cl) ∨ ((x3 : Int) = cl ∧ ¬ max (x1 : Int) a < min (x2 : Int) b) ∨ ((x3 : Int) = cl ∧ max (x1 : Int) a < min (x2 : Int) b ∧ mo ≠ 0 ∧ (x4 : Int) ≠ mo) := by
        by_cases e1 : (x3 : Int) = cl
        rotate_left
        · exact .inr (.inl e1)
        · by_cases e2 : max (x1 : Int) a < min (x2 : Int) b
          · by_cases e3 : mo = 0 ∨ (x4 : Int) = mo
            · exact .inl ⟨e1, e2, e3⟩
            · exact .inr (.inr (.inr ⟨e1, e2, fun h => e3 (.inl h), fun h => e3 (.inr h)⟩))
          · exact .inr (.inr (.inl ⟨e1, e2⟩))
      rcases cases4 with ⟨e1, e2, e3⟩ | e1 | ⟨e1, e2⟩ | ⟨e1, e2, e3, e4⟩
      · obtain ⟨e5, e6, e7⟩ := meet_of hmem a b e2
        dsimp only at e5 e6 e7
        have hfx : f (x1, x2, x3, x4) = some (max x1 (max a 0).toNat, min x2 (min b 256).toNat, x3, x4) := by
          rw [HF.out]
          unfold clipH
          rw [if_pos ⟨by (simp only [HP.out, Bool.and_eq_true, Bool.or_eq_true, decide_eq_true_eq]; exact ⟨e1, e3⟩), e5⟩]
        obtain ⟨m1, hm1⟩ : ∃ m1, m1 = max x1 (max a 0).toNat := ⟨_, rfl⟩
        obtain ⟨m2, hm2⟩ : ∃ m2, m2 = min x2 (min b 256).toNat := ⟨_, rfl⟩
        rw [← hm1, ← hm2] at hfx e5
        rw [e6, e7, ← hm1, ← hm2]
        have HFX := Lib.hid hfx
        have HO := Lib.hid (own_mod HI.out.own ((HMZ.out.alloc (.cells #[.int .i64 m1, .int .i64 m2] 23)).alloc (.cells #[.int .i64 m1, .int .i64 m2, .int .i64 x3, .int .i64 x4] 39)) (by simp))
        have HN4 := Lib.hid (news4g (z.alloc (.cells #[.int .i64 m1, .int .i64 m2] 23)) m1 m2 x3 x4 39 (z.heap.size + 1) (by simp))
        have lo5 := HI.out.md.size
        have f2 : (m1 : Int) < (m2 : Int) := by omega
        have hb2 : (mo == 0) = true ∨ ((mo == 0) = false ∧ ((x4 : Int) == mo) = true) := by
          by_cases e8 : mo = 0
          · exact .inl (by simpa using e8)
          · exact .inr ⟨by simpa using e8, by simpa using e3.resolve_left e8⟩
        subst e1
        have f1 : ((x3 : Int) == (x3 : Int)) = true := by simp
        clear e3
        clear hm1 hm2 e6 e7 hfx e2
        rcases hb2 with f3 | ⟨f3, f4⟩
        all_goals
          go_wp2_with (at_builtin; refine app1 w1.heap.size 31 39 (.agg #[.int .i64 0, .int .i64 0, .int .i64 0, .int .i64 0]) 4 32 Tryd.underlying31 info_hold rfl (by omega) (by omega) rfl _ _ rfl u9 _ _ rfl HO.out (z.heap.size + 1) (hcell (m1, m2, x3, x4)) rfl rfl HN4.out (by simp [hcell, Value.oneCell']) (by omega) (by simp; omega) ?_; intro g9 cap9 w9 ho9 hm9 hg9 hb9)
          have FIN := Lib.hid (setI_more (HI.out.same ((HMZ.out.alloc _).alloc _)) HH.out HFX.out hm9 ho9)
          clear ho9 hm9 hg9 hb9 HN4 HO HI
          go_wp2
          go_roundw
          case rel => exact ⟨j + 1, by omega, by go_num, FIN.out⟩
          case measure => simp [intOf]; omega
      · have hfx : f (x1, x2, x3, x4) = none := by
          rw [HF.out]
          unfold clipH
          rw [if_neg (by (simp only [HP.out, e1]; simp))]
        have FIN := Lib.hid (setI_skip HI.out HH.out hfx (HMZ.out.alloc (.cells #[.int .i64 (max (x1 : Int) a), .int .i64 (min (x2 : Int) b)] 23)))
        obtain ⟨X1, hX1⟩ : ∃ X1, X1 = max (x1 : Int) a := ⟨_, rfl⟩
        obtain ⟨X2, hX2⟩ : ∃ X2, X2 = min (x2 : Int) b := ⟨_, rfl⟩
        rw [← hX1, ← hX2] at FIN ⊢
        have f1 : ((x3 : Int) == cl) = false := by simpa using e1
        clear e1
        clear hX1 hX2 hfx HI
        go_wp2
        go_roundw
        case rel => exact ⟨j + 1, by omega, by go_num, FIN.out⟩
        case measure => simp [intOf]; omega
      · have e5 := meet_not hmem a b e2
        dsimp only at e5
        have hfx : f (x1, x2, x3, x4) = none := by
          rw [HF.out]
          unfold clipH
          rw [if_neg (by exact fun h => e5 h.2)]
        have FIN := Lib.hid (setI_skip HI.out HH.out hfx (HMZ.out.alloc (.cells #[.int .i64 (max (x1 : Int) a), .int .i64 (min (x2 : Int) b)] 23)))
        obtain ⟨X1, hX1⟩ : ∃ X1, X1 = max (x1 : Int) a := ⟨_, rfl⟩
        obtain ⟨X2, hX2⟩ : ∃ X2, X2 = min (x2 : Int) b := ⟨_, rfl⟩
        rw [← hX1, ← hX2] at FIN ⊢
        have f1 : ((x3 : Int) == cl) = true := by simpa using e1
        have f2 : decide (X1 < X2) = false := by rw [hX1, hX2]; simpa using e2
        clear e1 e2 e5
        clear hX1 hX2 hfx HI
        go_wp2
        go_roundw
        case rel => exact ⟨j + 1, by omega, by go_num, FIN.out⟩
        case measure => simp [intOf]; omega
      · have hfx : f (x1, x2, x3, x4) = none := by
          rw [HF.out]
          unfold clipH
          rw [if_neg (by (simp only [HP.out, Bool.and_eq_true, Bool.or_eq_true, decide_eq_true_eq]; exact fun h => h.1.2.elim e3 e4))]
        have FIN := Lib.hid (setI_skip HI.out HH.out hfx (HMZ.out.alloc (.cells #[.int .i64 (max (x1 : Int) a), .int .i64 (min (x2 : Int) b)] 23)))
        obtain ⟨X1, hX1⟩ : ∃ X1, X1 = max (x1 : Int) a := ⟨_, rfl⟩
        obtain ⟨X2, hX2⟩ : ∃ X2, X2 = min (x2 : Int) b := ⟨_, rfl⟩
        rw [← hX1, ← hX2] at FIN ⊢
        have f1 : ((x3 : Int) == cl) = true := by simpa using e1
        have f2 : X1 < X2 := by rw [hX1, hX2]; exact e2
        have f3 : ((x4 : Int) == mo) = false := by simpa using e4
        have f4 : (mo == 0) = false := by simpa using e3
        clear e1 e2 e3 e4
        clear hX1 hX2 hfx HI
        go_wp2
        go_roundw
        case rel => exact ⟨j + 1, by omega, by go_num, FIN.out⟩
        case measure => simp [intOf]; omega
    · obtain rfl : j = n := by omega
      have hlt' : decide (j < j) = false := by simp
      have hF : SomeP w (someL t a b p) (.returned u9) wr := by
        have h1 := hI.own
        rw [show (L.take j) = L by rw [HN.out]; simp, ← HE.out] at h1
        exact ⟨_, rfl, own_base h1 (by have := S1.out; omega), HM1.out.trans hI.md⟩
      have HF' := Lib.hid hF
      clear hF hI
      go_wp2
      go_ret
      exact HF'.out
end Go.Proofs.YtijjbkkcienfgaaDoor
