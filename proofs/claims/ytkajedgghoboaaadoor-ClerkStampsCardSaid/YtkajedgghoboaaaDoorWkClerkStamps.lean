/- The walk of the law ClerkStamps: the stamps of a clerk rise; those of two clerks that are given unlike grants are never one. The premise: the variable 'whole' holds what its initialiser lays. -/
import Derived.Test.YtkajedgghoboaaaDoorProg
import Derived.Test.YtkajedgghoboaaaDoorRow
import Derived.Test.YtkajedgghoboaaaDoorClerkP
import Derived.Deep.DeepCutAuto
namespace Go.Proofs.YtkajedgghoboaaaDoor
open Go.RowKit
set_option linter.unusedVariables false
set_option linter.unusedSimpArgs false
attribute [local go_sem ↓] Go.wp_at_zero Go.wp_at_succ

/-- Behind i rounds: two clerks' grants, how many stamps they told, the last ones. -/
structure StI (i gA kA gB kB last other : Int) : Prop where
  i0 : 0 ≤ i
  a0 : 0 ≤ gA
  a1 : gA ≤ i
  a2 : 0 ≤ kA
  a3 : kA ≤ i
  la : (gA = 0 ∧ last = 0) ∨ (1 ≤ gA ∧ 1 ≤ kA ∧ last = gA * 1048576 + kA)
  b0 : 0 ≤ gB
  b1 : gB ≤ i
  b2 : 0 ≤ kB
  b3 : kB ≤ i
  lb : (gB = 0 ∧ other = 0) ∨ (1 ≤ gB ∧ 1 ≤ kB ∧ other = gB * 1048576 + kB)
  ne : gA = gB → gA = 0
structure StM (i gA kA gB kB last other : Int) : Prop where
  k1 : kA < 1048575
  k2 : kB < 1048575
  fa : gA ≠ 0 → last < gA * 1048576 + (kA + 1) ∧ gA * 1048576 + (kA + 1) ≠ other
  fb : gB ≠ 0 → other < gB * 1048576 + (kB + 1) ∧ gB * 1048576 + (kB + 1) ≠ last
  fab : gA ≠ 0 → gB ≠ 0 → gA * 1048576 + (kA + 1) ≠ gB * 1048576 + (kB + 1)
  next : StI (i + 1) gA (if gA = 0 then kA else kA + 1) gB (if gB = 0 then kB else kB + 1) (if gA = 0 then last else gA * 1048576 + (kA + 1)) (if gB = 0 then other else gB * 1048576 + (kB + 1))
theorem st_step {i gA kA gB kB last other gA' kA' gB' kB' : Int} (h : StI i gA kA gB kB last other) (hi : i < 60)
    (hc : (gA' = gA ∧ kA' = kA ∧ gB' = gB ∧ kB' = kB) ∨ (gA' = i + 1 ∧ kA' = 0 ∧ gB' = gB ∧ kB' = kB) ∨ (gB' = i + 1 ∧ kB' = 0 ∧ gA' = gA ∧ kA' = kA)) : StM i gA' kA' gB' kB' last other := by
  obtain ⟨i0, a0, a1, a2, a3, la, b0, b1, b2, b3, lb, ne⟩ := h
  have n1 : gA' = gB' → gA' = 0 := by omega
  refine ⟨by omega, by omega, fun h => ?_, fun h => ?_, fun h1 h2 => by omega, ?_⟩
  · constructor <;> omega
  · constructor <;> omega
  · by_cases e1 : gA' = 0
    · by_cases e2 : gB' = 0
      · rw [if_pos e1, if_pos e2, if_pos e1, if_pos e2]
        exact ⟨by omega, by omega, by omega, by omega, by omega, by omega, by omega, by omega, by omega, by omega, by omega, by omega⟩
      · rw [if_pos e1, if_neg e2, if_pos e1, if_neg e2]
        exact ⟨by omega, by omega, by omega, by omega, by omega, by omega, by omega, by omega, by omega, by omega, by omega, by omega⟩
    · by_cases e2 : gB' = 0
      · rw [if_neg e1, if_pos e2, if_neg e1, if_pos e2]
        exact ⟨by omega, by omega, by omega, by omega, by omega, by omega, by omega, by omega, by omega, by omega, by omega, by omega⟩
      · rw [if_neg e1, if_neg e2, if_neg e1, if_neg e2]
        exact ⟨by omega, by omega, by omega, by omega, by omega, by omega, by omega, by omega, by omega, by omega, by omega, by omega⟩

/-- Two clerks, apart, the first one's blocks below N, the second one's from N on. -/
structure TwoI (W wr : World) (N kA bA pA qA tA kB bB pB qB tB : Nat) (sA sB : St) : Prop where
  ca : Clk wr kA bA pA qA tA sA
  cb : Clk wr kB bB pB qB tB sB
  md : Mod [] W wr
  w0 : 0 < W.heap.size
  lo : W.heap.size ≤ kA ∧ W.heap.size ≤ bA ∧ W.heap.size ≤ pA ∧ W.heap.size ≤ qA ∧ W.heap.size ≤ tA
  hi : kA < N ∧ bA < N ∧ pA < N ∧ qA < N ∧ tA < N
  up : N ≤ kB ∧ N ≤ bB ∧ N ≤ pB ∧ N ≤ qB ∧ N ≤ tB
  ia : sA.id = 1
  ib : sB.id = 2
namespace TwoI
variable {W wr w' : World} {N kA bA pA qA tA kB bB pB qB tB : Nat} {sA sB s' : St}
theorem nextA (h : TwoI W wr N kA bA pA qA tA kB bB pB qB tB sA sB) {S : List Nat} (hc : Clk w' kA bA pA qA tA s') (m : Mod S wr w') (hS : ∀ z, z ∈ S → z = kA ∨ z = tA) (hi : s'.id = 1) : TwoI W w' N kA bA pA qA tA kB bB pB qB tB s' sB := by
  obtain ⟨ca, cb, md, w0, lo, hi', up, ia, ib⟩ := h
  exact ⟨hc, cb.mod m (fun e => by have := hS _ e; omega) (fun e => by have := hS _ e; omega) (fun e => by have := hS _ e; omega) (fun e => by have := hS _ e; omega) (fun e => by have := hS _ e; omega) (fun e => by have := hS _ e; omega),
    md.fresh m (fun z hz => .inr (by have := hS _ hz; omega)), w0, lo, hi', up, hi, ib⟩
theorem nextB (h : TwoI W wr N kA bA pA qA tA kB bB pB qB tB sA sB) {S : List Nat} (hc : Clk w' kB bB pB qB tB s') (m : Mod S wr w') (hS : ∀ z, z ∈ S → z = kB ∨ z = tB) (hi : s'.id = 2) : TwoI W w' N kA bA pA qA tA kB bB pB qB tB sA s' := by
  obtain ⟨ca, cb, md, w0, lo, hi', up, ia, ib⟩ := h
  exact ⟨ca.mod m (fun e => by have := hS _ e; omega) (fun e => by have := hS _ e; omega) (fun e => by have := hS _ e; omega) (fun e => by have := hS _ e; omega) (fun e => by have := hS _ e; omega) (fun e => by have := hS _ e; omega), hc,
    md.fresh m (fun z hz => .inr (by have := hS _ hz; omega)), w0, lo, hi', up, ia, hi⟩
theorem same (h : TwoI W wr N kA bA pA qA tA kB bB pB qB tB sA sB) (m : Mod [] wr w') : TwoI W w' N kA bA pA qA tA kB bB pB qB tB sA sB :=
  ⟨h.ca.same m, h.cb.same m, h.md.trans m, h.w0, h.lo, h.hi, h.up, h.ia, h.ib⟩
end TwoI
theorem given_id (s : St) (x y c m n : Int) : (givenS s x y c m n).id = s.id := by unfold givenS; split <;> rfl
theorem stamp_id (s : St) : (stampS s).id = s.id := by unfold stampS; split <;> rfl
/-- What a grant that is newer comes to. -/
theorem given_new {s : St} {x y m n : Int} {i : Nat} (hi : i < 8) (hid : s.id = i) (hn : 1 ≤ n) (hn2 : n < 1048576) (hg : s.grant < n) :
    (givenE s x y i m n == 0) = (blk x y && (m == 1 || m == 2)) ∧ ((givenE s x y i m n = 0 ∧ (givenS s x y i m n).grant = n ∧ (givenS s x y i m n).told = 0) ∨ (givenE s x y i m n ≠ 0 ∧ givenS s x y i m n = s)) := by
  have e : givenE s x y i m n = putE (fun _ _ => 0) x y i m := by
    unfold givenE
    rw [if_neg (by omega), if_neg (by omega), if_neg (fun h => h hid.symm)]
    by_cases h : putE (fun _ _ => 0) x y i m ≠ 0
    · rw [if_pos h]
    · rw [if_neg h, if_neg (by omega)]
      omega
  constructor
  · rw [e]
    by_cases h : putE (fun _ _ => 0) x y i m = 0
    · obtain ⟨h1, h2⟩ := put_good h
      rw [h, h1]
      rcases h2 with rfl | rfl <;> rfl
    · have h' := put_bad hi h
      have e1 : (putE (fun _ _ => 0) x y i m == 0) = false := by simpa using h
      rw [e1]
      rcases h' with h' | ⟨h1, h2, h3⟩
      · rw [h']; rfl
      · have e2 : (m == 1) = false := by simpa using h2
        have e3 : (m == 2) = false := by simpa using h3
        rw [h1, e2, e3]; rfl
  · by_cases h : givenE s x y i m n = 0
    · refine .inl ⟨h, ?_, ?_⟩ <;> (unfold givenS; rw [if_pos h])
    · refine .inr ⟨h, ?_⟩
      unfold givenS
      rw [if_neg h]
theorem stamp_none {s : St} (h : s.grant = 0) : stampE s = 170 ∧ stampV s = 0 ∧ stampS s = s := by
  have e : stampE s = 170 := by unfold stampE; rw [if_pos h]
  exact ⟨e, by unfold stampV; rw [e, if_neg (by decide)], by unfold stampS; rw [e, if_neg (by decide)]⟩
theorem stamp_some {s : St} (h : s.grant ≠ 0) (h2 : s.told < 1048575) : stampE s = 0 ∧ stampV s = s.grant * 1048576 + (s.told + 1) ∧ (stampS s).grant = s.grant ∧ (stampS s).told = s.told + 1 := by
  have e : stampE s = 0 := by unfold stampE; rw [if_neg h, if_neg (by omega)]
  exact ⟨e, by unfold stampV; rw [if_pos e], by unfold stampS; rw [if_pos e], by unfold stampS; rw [if_pos e]⟩
def StRel (W wr : World) (N kA bA pA qA tA kB bB pB qB tB : Nat) (k : Nat) (last other : Int) : Prop :=
  ∃ sA sB, TwoI W wr N kA bA pA qA tA kB bB pB qB tB sA sB ∧ StI k sA.grant sA.told sB.grant sB.told last other

set_option maxRecDepth 100000 in
set_option maxHeartbeats 8000000 in
theorem clerkStamps_walk (W : World) (t0 : Whole W) (v0 : Value) (c0 : CellOk W (.sl [.int .i64, .int .i64, .int .i64, .int .i64, .int .i64, .int .i64, .int .i64, .bool]) v0)
    (v1 : Value) (c1 : CellOk W (.sl [.bool]) v1) :
    Calls Tryd.prog 11 #[v0, v1] W fun e w' => e = .returned (.bool true) ∧ Below W.heap.size W w' := by
  obtain ⟨n, f, hA, hf⟩ := c0.slA (by simp)
  obtain ⟨A, cap0, rfl, hn, hcap, hcell⟩ := hA.ex
  have hcap' : cap0 ≤ 9223372036854775807 := by unfold maxLen at hcap; omega
  obtain ⟨n2, f2, hA2, hf2⟩ := c1.slA (by simp)
  obtain ⟨A2, cap2, rfl, hn2, hcap2, hcell2⟩ := hA2.ex
  have hcap2' : cap2 ≤ 9223372036854775807 := by unfold maxLen at hcap2; omega
  have hw0 : 0 < W.heap.size := World.block_lt_of_cell? W _ t0.1
  clear hcap c0 hA hcap2 c1 hA2
  have HT := Lib.hid t0
  have C0 := Lib.hid (shown20_calls W t0)
  clear t0
  by_cases h60 : 60 < n
  · have hi : (60 : Int) < (n : Int) := by omega
    go_enter Tryd.func11, Tryd.ntmps11
    go_wp2_with (go_at_call 29; refine C0.out.mono ?_; rintro e w' ⟨rfl, m⟩)
    go_ret
    exact ⟨rfl, m.below (Nat.le_refl _) (by simp)⟩
  have h5 : decide (60 < n) = false := by simpa using h60
  by_cases h200 : 200 < n2
  · have hi : (200 : Int) < (n2 : Int) := by omega
    go_enter Tryd.func11, Tryd.ntmps11
    go_wp2_with (go_at_call 29; refine C0.out.mono ?_; rintro e w' ⟨rfl, m⟩)
    go_ret
    exact ⟨rfl, m.below (Nat.le_refl _) (by simp)⟩
  have h6 : decide (200 < n2) = false := by simpa using h200
  go_enter Tryd.func11, Tryd.ntmps11
  go_wp2_with fail
  refine C0.out.mono ?_
  rintro e z0 ⟨rfl, n0⟩
  have HW0 := Lib.hid (HT.out.mod n0 (by simp))
  have HN0 := Lib.hid n0
  have s0 := n0.size
  clear n0
  go_wp2_with fail
  refine (ckNew_calls z0 1 0 0 HW0.out).mono ?_
  rintro e z1 ⟨kA, bA, pA, qA, tA, rfl, h1, n1, l1, l2, l3, l4, l5⟩
  have u1 := h1.arr.lt
  have u2 := h1.own.arr.lt
  have u3 := h1.own.cp.lt
  have u4 := h1.own.cq.lt
  have u5 := h1.tb.lt
  have H1 := Lib.hid h1
  have HN1 := Lib.hid (HN0.out.trans n1)
  clear h1 n1
  go_wp2_with fail
  refine (ckNew_calls z1 2 0 0 H1.out.wh).mono ?_
  rintro e z2 ⟨kB, bB, pB, qB, tB, rfl, h2, n2', r1, r2, r3, r4, r5⟩
  have I0 : StRel W z2 z1.heap.size kA bA pA qA tA kB bB pB qB tB 0 0 0 :=
    ⟨stNew 1 0 0, stNew 2 0 0, ⟨H1.out.same n2', h2, HN1.out.trans n2', hw0, ⟨by omega, by omega, by omega, by omega, by omega⟩, ⟨u1, u2, u3, u4, u5⟩, ⟨r1, r2, r3, r4, r5⟩, rfl, rfl⟩,
      ⟨by simp, by simp [stNew], by simp [stNew], by simp [stNew], by simp [stNew], .inl ⟨rfl, rfl⟩, by simp [stNew], by simp [stNew], by simp [stNew], by simp [stNew], .inl ⟨rfl, rfl⟩, fun _ => rfl⟩⟩
  obtain ⟨N, hN⟩ : ∃ N, N = z1.heap.size := ⟨_, rfl⟩
  rw [← hN] at I0
  have HI0 := Lib.hid I0
  clear h2 n2' I0 H1 hN l1 l2 l3 l4 l5 u1 u2 u3 u4 u5 r1 r2 r3 r4 r5
  go_wp2
  go_loopw [7, 8, 9, 10] (fun c l o i wr => ∃ (k : Nat) (last other : Int), k ≤ n ∧ k ≤ n2 ∧ i = .int .i64 k ∧ c = .int .i64 k ∧ l = .int .i64 last ∧ o = .int .i64 other ∧ StRel W wr N kA bA pA qA tA kB bB pB qB tB k last other) (fun _ _ _ i _ => n - (intOf i).toNat)
  case atStart => exact ⟨0, 0, 0, Nat.zero_le _, Nat.zero_le _, rfl, rfl, rfl, rfl, HI0.out⟩
  case round =>
    obtain ⟨k, last, other, hkn, hkn2, rfl, rfl, rfl, rfl, sA, sB, hT, hS⟩ := hrel
    clear HI0
    have HTW := Lib.hid hT
    have HST := Lib.hid hS
    clear hT hS
    by_cases hlt : k < n
    rotate_left
    · have hlt' : decide (k < n) = false := by simpa using hlt
      go_wp2
      go_ret
      exact ⟨rfl, HTW.out.md.below (Nat.le_refl _) (by simp)⟩
    by_cases hlt2 : k < n2
    rotate_left
    · have hlt' : decide (k < n2) = false := by simpa using hlt2
      go_wp2
      go_ret
      exact ⟨rfl, HTW.out.md.below (Nat.le_refl _) (by simp)⟩
    obtain ⟨bl, off, rfl, hx⟩ := hcell (by omega)
    obtain ⟨bl2, off2, rfl, hx2⟩ := hcell2 (by omega)
    obtain ⟨x3, e3, q3⟩ := (hf k 3 _ hlt rfl).int_inv
    obtain ⟨x4, e4, q4⟩ := (hf k 4 _ hlt rfl).int_inv
    obtain ⟨x5, e5, q5⟩ := (hf k 5 _ hlt rfl).int_inv
    obtain ⟨x6, e6, q6⟩ := (hf k 6 _ hlt rfl).int_inv
    obtain ⟨tb, e7⟩ := (hf2 k 0 _ hlt2 rfl).bool_inv
    have y3 := hx k 3 hlt (by simp)
    have y4 := hx k 4 hlt (by simp)
    have y5 := hx k 5 hlt (by simp)
    have y6 := hx k 6 hlt (by simp)
    have y7 := hx2 k 0 hlt2 (by simp)
    rw [e3] at y3
    rw [e4] at y4
    rw [e5] at y5
    rw [e6] at y6
    rw [e7] at y7
    simp only [List.length_cons, List.length_nil, Nat.zero_add, Nat.reduceAdd, Nat.add_zero, Nat.mul_one] at y3 y4 y5 y6 y7
    replace y3 := HTW.out.md.cell' y3 (by simp)
    replace y4 := HTW.out.md.cell' y4 (by simp)
    replace y5 := HTW.out.md.cell' y5 (by simp)
    replace y6 := HTW.out.md.cell' y6 (by simp)
    replace y7 := HTW.out.md.cell' y7 (by simp)
    have hbl := World.block_lt_of_cell? wr _ y3
    have hbl2 := World.block_lt_of_cell? wr _ y7
    clear hx hx2 e3 e4 e5 e6 e7 hf hf2 hcell hcell2 q3 q4 q5 q6
    have i0 : (0 : Int) ≤ (k : Int) := by omega
    have i1 : (k : Int) < (n : Int) := by omega
    have i2 : (k : Int) < (n2 : Int) := by omega
    have hk60 : (k : Int) < 60 := by omega
    cases tb with
    | true =>
      obtain ⟨Z, hZ⟩ : ∃ Z, Z = wr.alloc (.cells #[.int .i64 x3, .int .i64 x4, .int .i64 1, .int .i64 x6] 31) := ⟨_, rfl⟩
      have MZ : Mod [] wr Z := by rw [hZ]; exact (Mod.refl [] wr).alloc _
      have AZ : Arr Z wr.heap.size 31 4 (hcF x3 x4 1 x6) := by rw [hZ]; exact hold_new wr x3 x4 1 x6
      have HZ := Lib.hid hZ
      have HAZ := Lib.hid AZ
      have T1 := Lib.hid (HTW.out.same MZ)
      clear hZ MZ AZ
      go_wp2_with fail
      rw [← HZ.out]
      have GN := Lib.hid (given_new (s := sA) (x := x3) (y := x4) (m := x6) (n := (k : Int) + 1) (i := 1) (by omega) T1.out.ia (by omega) (by omega) (by have := HST.out.a1; omega))
      refine (ckGiven_calls Z kA bA pA qA tA sA x3 x4 1 x6 ((k : Int) + 1) T1.out.ca).mono ?_
      rintro e z3 ⟨rfl, h3, n3⟩
      have T3 := T1.out.nextA h3 n3 (by simp) ((given_id _ _ _ _ _ _).trans T1.out.ia)
      have hne : wr.heap.size ∉ [kA, tA] := by
        have a1 := arr_ne HAZ.out T1.out.ca.arr (by decide)
        have a2 := arr_ne HAZ.out T1.out.ca.tb.arr (by decide)
        simp
        exact ⟨a1, a2⟩
      have A3 := HAZ.out.mod n3 hne
      have g0 : z3.cell? ⟨wr.heap.size, 0, none⟩ = some (.int .i64 x3) := A3.cell 0 (by omega)
      have g1 : z3.cell? ⟨wr.heap.size, 1, none⟩ = some (.int .i64 x4) := A3.cell 1 (by omega)
      have g3 : z3.cell? ⟨wr.heap.size, 3, none⟩ = some (.int .i64 x6) := A3.cell 3 (by omega)
      have o3 := A3.lt
      have SM := st_step (gA' := (givenS sA x3 x4 1 x6 ((k : Int) + 1)).grant) (kA' := (givenS sA x3 x4 1 x6 ((k : Int) + 1)).told) (gB' := sB.grant) (kB' := sB.told) HST.out hk60
          (GN.out.2.elim (fun h => .inr (.inl ⟨h.2.1, h.2.2, rfl, rfl⟩)) (fun h => .inl ⟨congrArg St.grant h.2, congrArg St.told h.2, rfl, rfl⟩))
      obtain ⟨E, hE⟩ : ∃ E, E = givenE sA x3 x4 1 x6 ((k : Int) + 1) := ⟨_, rfl⟩
      have gq : (E == 0) = (blk x3 x4 && (x6 == 1 || x6 == 2)) := by rw [hE]; exact GN.out.1
      rw [← hE]
      have HGQ := Lib.hid gq
      obtain ⟨s9, hs9⟩ : ∃ s9, s9 = (givenS sA x3 x4 1 x6 ((k : Int) + 1)) := ⟨_, rfl⟩
      rw [← hs9] at T3 SM
      have HT3 := Lib.hid T3
      have HSM := Lib.hid SM
      clear h3 n3 T3 A3 SM hE gq hs9 hne GN HST y3 y4 y5 y6 y7
      go_upto_region 19 with (fail)
      go_cut [79] (fun s79 wx => s79 = .bool false ∧ Mod [] z3 wx)
      case first =>
        have ways : (blk x3 x4 = false ∧ (E == 0) = false) ∨ (blk x3 x4 = true ∧ (x6 == 1) = true ∧ (E == 0) = true) ∨ (blk x3 x4 = true ∧ (x6 == 1) = false ∧ (x6 == 2) = true ∧ (E == 0) = true) ∨ (blk x3 x4 = true ∧ (x6 == 1) = false ∧ (x6 == 2) = false ∧ (E == 0) = false) := by
          rw [HGQ.out]
          cases blk x3 x4 <;> cases (x6 == 1) <;> cases (x6 == 2) <;> simp
        rcases ways with ⟨j1, j2⟩ | ⟨j1, j2, j3⟩ | ⟨j1, j2, j3, j4⟩ | ⟨j1, j2, j3, j4⟩
        all_goals
          go_wp2_with (go_at_call 14; refine (blocks_calls _ _ _).mono ?_; rintro e w' ⟨rfl, rfl⟩; rw [j1])
          go_meet
          exact ⟨rfl, (Mod.refl [] _).alloc _⟩
      case rest =>
        obtain ⟨h79, hM⟩ := hcut
        subst h79
        have HT4 := Lib.hid (HT3.out.same hM)
        clear hM g0 g1 g3 o3 HT3 T1 HTW HGQ
        obtain ⟨zz, hzz⟩ : ∃ zz, zz = wc := ⟨_, rfl⟩
        rw [← hzz] at HT4 ⊢
        clear hzz
        go_wp2_with fail
        refine (ckStamp_calls zz kA bA pA qA tA s9 HT4.out.ca).mono ?_
        rintro e z5 ⟨rfl, h5, n5⟩
        have HT5 := Lib.hid (HT4.out.nextA h5 n5 (by simp) ((stamp_id _).trans HT4.out.ia))
        clear h5 n5
        have ga : s9.grant = 0 ∨ s9.grant ≠ 0 := by omega
        have gb : sB.grant = 0 ∨ sB.grant ≠ 0 := by omega
        rcases ga with ga | ga
        · obtain ⟨p1, p2, p3⟩ := stamp_none ga
          rw [p1, p2]
          rw [p3] at HT5
          have GA := Lib.hid ga
          clear ga p1 p2 p3
          go_wp2_with fail
          refine (ckStamp_calls z5 kB bB pB qB tB sB HT5.out.cb).mono ?_
          rintro e z6 ⟨rfl, h6, n6⟩
          have HT6 := Lib.hid (HT5.out.nextB h6 n6 (by simp) ((stamp_id _).trans HT5.out.ib))
          clear h6 n6
          rcases gb with gb | gb
          · obtain ⟨p1, p2, p3⟩ := stamp_none gb
            rw [p1, p2]
            rw [p3] at HT6
            have GB := Lib.hid gb
            clear gb p1 p2 p3
            have hnx := HSM.out.next
            simp only [if_pos GA.out, if_pos GB.out] at hnx
            have HNX := Lib.hid hnx
            clear hnx
            go_wp2
            go_roundw
            case rel => exact ⟨k + 1, last, other, by omega, by omega, by go_num, by go_num, rfl, rfl, s9, sB, HT6.out, by exact HNX.out⟩
            case measure => simp [intOf]; omega
          · obtain ⟨p1, p2, p3, p4⟩ := stamp_some gb HSM.out.k2
            rw [p1, p2]
            have GB := Lib.hid gb
            have R3 := Lib.hid p3
            have R4 := Lib.hid p4
            clear gb p1 p2 p3 p4
            obtain ⟨Y, hY⟩ : ∃ Y, Y = sB.grant * 1048576 + (sB.told + 1) := ⟨_, rfl⟩
            rw [← hY]
            have HY := Lib.hid hY
            clear hY
            have d3 : ¬ Y ≤ other := by have := (HSM.out.fb GB.out).1; rw [← HY.out] at this; omega
            have d4 : (Y == last) = false := by have := (HSM.out.fb GB.out).2; rw [← HY.out] at this; simpa using this
            have hnx := HSM.out.next
            simp only [if_pos GA.out, if_neg GB.out] at hnx
            rw [← HY.out] at hnx
            have HNX := Lib.hid hnx
            clear hnx
            go_wp2
            go_roundw
            case rel => exact ⟨k + 1, last, Y, by omega, by omega, by go_num, by go_num, rfl, rfl, s9, (stampS sB), HT6.out, by rw [R3.out, R4.out]; exact HNX.out⟩
            case measure => simp [intOf]; omega
        · obtain ⟨p1, p2, p3, p4⟩ := stamp_some ga HSM.out.k1
          rw [p1, p2]
          have GA := Lib.hid ga
          have P3 := Lib.hid p3
          have P4 := Lib.hid p4
          clear ga p1 p2 p3 p4
          obtain ⟨X, hX⟩ : ∃ X, X = s9.grant * 1048576 + (s9.told + 1) := ⟨_, rfl⟩
          rw [← hX]
          have HX := Lib.hid hX
          clear hX
          go_wp2_with fail
          refine (ckStamp_calls z5 kB bB pB qB tB sB HT5.out.cb).mono ?_
          rintro e z6 ⟨rfl, h6, n6⟩
          have HT6 := Lib.hid (HT5.out.nextB h6 n6 (by simp) ((stamp_id _).trans HT5.out.ib))
          clear h6 n6
          rcases gb with gb | gb
          · obtain ⟨p1, p2, p3⟩ := stamp_none gb
            rw [p1, p2]
            rw [p3] at HT6
            have GB := Lib.hid gb
            clear gb p1 p2 p3
            have d1 : ¬ X ≤ last := by have := (HSM.out.fa GA.out).1; rw [← HX.out] at this; omega
            have d2 : (X == other) = false := by have := (HSM.out.fa GA.out).2; rw [← HX.out] at this; simpa using this
            have hnx := HSM.out.next
            simp only [if_neg GA.out, if_pos GB.out] at hnx
            rw [← HX.out] at hnx
            have HNX := Lib.hid hnx
            clear hnx
            go_wp2
            go_roundw
            case rel => exact ⟨k + 1, X, other, by omega, by omega, by go_num, by go_num, rfl, rfl, (stampS s9), sB, HT6.out, by rw [P3.out, P4.out]; exact HNX.out⟩
            case measure => simp [intOf]; omega
          · obtain ⟨p1, p2, p3, p4⟩ := stamp_some gb HSM.out.k2
            rw [p1, p2]
            have GB := Lib.hid gb
            have R3 := Lib.hid p3
            have R4 := Lib.hid p4
            clear gb p1 p2 p3 p4
            obtain ⟨Y, hY⟩ : ∃ Y, Y = sB.grant * 1048576 + (sB.told + 1) := ⟨_, rfl⟩
            rw [← hY]
            have HY := Lib.hid hY
            clear hY
            have d1 : ¬ X ≤ last := by have := (HSM.out.fa GA.out).1; rw [← HX.out] at this; omega
            have d2 : (X == other) = false := by have := (HSM.out.fa GA.out).2; rw [← HX.out] at this; simpa using this
            have d3 : ¬ Y ≤ other := by have := (HSM.out.fb GB.out).1; rw [← HY.out] at this; omega
            have d4 : (Y == last) = false := by have := (HSM.out.fb GB.out).2; rw [← HY.out] at this; simpa using this
            have d5 : (X == Y) = false := by have := HSM.out.fab GA.out GB.out; rw [← HX.out, ← HY.out] at this; simpa using this
            have hnx := HSM.out.next
            simp only [if_neg GA.out, if_neg GB.out] at hnx
            rw [← HX.out] at hnx
            rw [← HY.out] at hnx
            have HNX := Lib.hid hnx
            clear hnx
            go_wp2
            go_roundw
            case rel => exact ⟨k + 1, X, Y, by omega, by omega, by go_num, by go_num, rfl, rfl, (stampS s9), (stampS sB), HT6.out, by rw [P3.out, P4.out, R3.out, R4.out]; exact HNX.out⟩
            case measure => simp [intOf]; omega
    | false =>
      obtain ⟨Z, hZ⟩ : ∃ Z, Z = wr.alloc (.cells #[.int .i64 x3, .int .i64 x4, .int .i64 2, .int .i64 x6] 31) := ⟨_, rfl⟩
      have MZ : Mod [] wr Z := by rw [hZ]; exact (Mod.refl [] wr).alloc _
      have AZ : Arr Z wr.heap.size 31 4 (hcF x3 x4 2 x6) := by rw [hZ]; exact hold_new wr x3 x4 2 x6
      have HZ := Lib.hid hZ
      have HAZ := Lib.hid AZ
      have T1 := Lib.hid (HTW.out.same MZ)
      clear hZ MZ AZ
      go_wp2_with fail
      rw [← HZ.out]
      have GN := Lib.hid (given_new (s := sB) (x := x3) (y := x4) (m := x6) (n := (k : Int) + 1) (i := 2) (by omega) T1.out.ib (by omega) (by omega) (by have := HST.out.b1; omega))
      refine (ckGiven_calls Z kB bB pB qB tB sB x3 x4 2 x6 ((k : Int) + 1) T1.out.cb).mono ?_
      rintro e z3 ⟨rfl, h3, n3⟩
      have T3 := T1.out.nextB h3 n3 (by simp) ((given_id _ _ _ _ _ _).trans T1.out.ib)
      have hne : wr.heap.size ∉ [kB, tB] := by
        have a1 := arr_ne HAZ.out T1.out.cb.arr (by decide)
        have a2 := arr_ne HAZ.out T1.out.cb.tb.arr (by decide)
        simp
        exact ⟨a1, a2⟩
      have A3 := HAZ.out.mod n3 hne
      have g0 : z3.cell? ⟨wr.heap.size, 0, none⟩ = some (.int .i64 x3) := A3.cell 0 (by omega)
      have g1 : z3.cell? ⟨wr.heap.size, 1, none⟩ = some (.int .i64 x4) := A3.cell 1 (by omega)
      have g3 : z3.cell? ⟨wr.heap.size, 3, none⟩ = some (.int .i64 x6) := A3.cell 3 (by omega)
      have o3 := A3.lt
      have SM := st_step (gA' := sA.grant) (kA' := sA.told) (gB' := (givenS sB x3 x4 2 x6 ((k : Int) + 1)).grant) (kB' := (givenS sB x3 x4 2 x6 ((k : Int) + 1)).told) HST.out hk60
          (GN.out.2.elim (fun h => .inr (.inr ⟨h.2.1, h.2.2, rfl, rfl⟩)) (fun h => .inl ⟨rfl, rfl, congrArg St.grant h.2, congrArg St.told h.2⟩))
      obtain ⟨E, hE⟩ : ∃ E, E = givenE sB x3 x4 2 x6 ((k : Int) + 1) := ⟨_, rfl⟩
      have gq : (E == 0) = (blk x3 x4 && (x6 == 1 || x6 == 2)) := by rw [hE]; exact GN.out.1
      rw [← hE]
      have HGQ := Lib.hid gq
      obtain ⟨s9, hs9⟩ : ∃ s9, s9 = (givenS sB x3 x4 2 x6 ((k : Int) + 1)) := ⟨_, rfl⟩
      rw [← hs9] at T3 SM
      have HT3 := Lib.hid T3
      have HSM := Lib.hid SM
      clear h3 n3 T3 A3 SM hE gq hs9 hne GN HST y3 y4 y5 y6 y7
      go_upto_region 19 with (fail)
      go_cut [79] (fun s79 wx => s79 = .bool false ∧ Mod [] z3 wx)
      case first =>
        have ways : (blk x3 x4 = false ∧ (E == 0) = false) ∨ (blk x3 x4 = true ∧ (x6 == 1) = true ∧ (E == 0) = true) ∨ (blk x3 x4 = true ∧ (x6 == 1) = false ∧ (x6 == 2) = true ∧ (E == 0) = true) ∨ (blk x3 x4 = true ∧ (x6 == 1) = false ∧ (x6 == 2) = false ∧ (E == 0) = false) := by
          rw [HGQ.out]
          cases blk x3 x4 <;> cases (x6 == 1) <;> cases (x6 == 2) <;> simp
        rcases ways with ⟨j1, j2⟩ | ⟨j1, j2, j3⟩ | ⟨j1, j2, j3, j4⟩ | ⟨j1, j2, j3, j4⟩
        all_goals
          go_wp2_with (go_at_call 14; refine (blocks_calls _ _ _).mono ?_; rintro e w' ⟨rfl, rfl⟩; rw [j1])
          go_meet
          exact ⟨rfl, (Mod.refl [] _).alloc _⟩
      case rest =>
        obtain ⟨h79, hM⟩ := hcut
        subst h79
        have HT4 := Lib.hid (HT3.out.same hM)
        clear hM g0 g1 g3 o3 HT3 T1 HTW HGQ
        obtain ⟨zz, hzz⟩ : ∃ zz, zz = wc := ⟨_, rfl⟩
        rw [← hzz] at HT4 ⊢
        clear hzz
        go_wp2_with fail
        refine (ckStamp_calls zz kA bA pA qA tA sA HT4.out.ca).mono ?_
        rintro e z5 ⟨rfl, h5, n5⟩
        have HT5 := Lib.hid (HT4.out.nextA h5 n5 (by simp) ((stamp_id _).trans HT4.out.ia))
        clear h5 n5
        have ga : sA.grant = 0 ∨ sA.grant ≠ 0 := by omega
        have gb : s9.grant = 0 ∨ s9.grant ≠ 0 := by omega
        rcases ga with ga | ga
        · obtain ⟨p1, p2, p3⟩ := stamp_none ga
          rw [p1, p2]
          rw [p3] at HT5
          have GA := Lib.hid ga
          clear ga p1 p2 p3
          go_wp2_with fail
          refine (ckStamp_calls z5 kB bB pB qB tB s9 HT5.out.cb).mono ?_
          rintro e z6 ⟨rfl, h6, n6⟩
          have HT6 := Lib.hid (HT5.out.nextB h6 n6 (by simp) ((stamp_id _).trans HT5.out.ib))
          clear h6 n6
          rcases gb with gb | gb
          · obtain ⟨p1, p2, p3⟩ := stamp_none gb
            rw [p1, p2]
            rw [p3] at HT6
            have GB := Lib.hid gb
            clear gb p1 p2 p3
            have hnx := HSM.out.next
            simp only [if_pos GA.out, if_pos GB.out] at hnx
            have HNX := Lib.hid hnx
            clear hnx
            go_wp2
            go_roundw
            case rel => exact ⟨k + 1, last, other, by omega, by omega, by go_num, by go_num, rfl, rfl, sA, s9, HT6.out, by exact HNX.out⟩
            case measure => simp [intOf]; omega
          · obtain ⟨p1, p2, p3, p4⟩ := stamp_some gb HSM.out.k2
            rw [p1, p2]
            have GB := Lib.hid gb
            have R3 := Lib.hid p3
            have R4 := Lib.hid p4
            clear gb p1 p2 p3 p4
            obtain ⟨Y, hY⟩ : ∃ Y, Y = s9.grant * 1048576 + (s9.told + 1) := ⟨_, rfl⟩
            rw [← hY]
            have HY := Lib.hid hY
            clear hY
            have d3 : ¬ Y ≤ other := by have := (HSM.out.fb GB.out).1; rw [← HY.out] at this; omega
            have d4 : (Y == last) = false := by have := (HSM.out.fb GB.out).2; rw [← HY.out] at this; simpa using this
            have hnx := HSM.out.next
            simp only [if_pos GA.out, if_neg GB.out] at hnx
            rw [← HY.out] at hnx
            have HNX := Lib.hid hnx
            clear hnx
            go_wp2
            go_roundw
            case rel => exact ⟨k + 1, last, Y, by omega, by omega, by go_num, by go_num, rfl, rfl, sA, (stampS s9), HT6.out, by rw [R3.out, R4.out]; exact HNX.out⟩
            case measure => simp [intOf]; omega
        · obtain ⟨p1, p2, p3, p4⟩ := stamp_some ga HSM.out.k1
          rw [p1, p2]
          have GA := Lib.hid ga
          have P3 := Lib.hid p3
          have P4 := Lib.hid p4
          clear ga p1 p2 p3 p4
          obtain ⟨X, hX⟩ : ∃ X, X = sA.grant * 1048576 + (sA.told + 1) := ⟨_, rfl⟩
          rw [← hX]
          have HX := Lib.hid hX
          clear hX
          go_wp2_with fail
          refine (ckStamp_calls z5 kB bB pB qB tB s9 HT5.out.cb).mono ?_
          rintro e z6 ⟨rfl, h6, n6⟩
          have HT6 := Lib.hid (HT5.out.nextB h6 n6 (by simp) ((stamp_id _).trans HT5.out.ib))
          clear h6 n6
          rcases gb with gb | gb
          · obtain ⟨p1, p2, p3⟩ := stamp_none gb
            rw [p1, p2]
            rw [p3] at HT6
            have GB := Lib.hid gb
            clear gb p1 p2 p3
            have d1 : ¬ X ≤ last := by have := (HSM.out.fa GA.out).1; rw [← HX.out] at this; omega
            have d2 : (X == other) = false := by have := (HSM.out.fa GA.out).2; rw [← HX.out] at this; simpa using this
            have hnx := HSM.out.next
            simp only [if_neg GA.out, if_pos GB.out] at hnx
            rw [← HX.out] at hnx
            have HNX := Lib.hid hnx
            clear hnx
            go_wp2
            go_roundw
            case rel => exact ⟨k + 1, X, other, by omega, by omega, by go_num, by go_num, rfl, rfl, (stampS sA), s9, HT6.out, by rw [P3.out, P4.out]; exact HNX.out⟩
            case measure => simp [intOf]; omega
          · obtain ⟨p1, p2, p3, p4⟩ := stamp_some gb HSM.out.k2
            rw [p1, p2]
            have GB := Lib.hid gb
            have R3 := Lib.hid p3
            have R4 := Lib.hid p4
            clear gb p1 p2 p3 p4
            obtain ⟨Y, hY⟩ : ∃ Y, Y = s9.grant * 1048576 + (s9.told + 1) := ⟨_, rfl⟩
            rw [← hY]
            have HY := Lib.hid hY
            clear hY
            have d1 : ¬ X ≤ last := by have := (HSM.out.fa GA.out).1; rw [← HX.out] at this; omega
            have d2 : (X == other) = false := by have := (HSM.out.fa GA.out).2; rw [← HX.out] at this; simpa using this
            have d3 : ¬ Y ≤ other := by have := (HSM.out.fb GB.out).1; rw [← HY.out] at this; omega
            have d4 : (Y == last) = false := by have := (HSM.out.fb GB.out).2; rw [← HY.out] at this; simpa using this
            have d5 : (X == Y) = false := by have := HSM.out.fab GA.out GB.out; rw [← HX.out, ← HY.out] at this; simpa using this
            have hnx := HSM.out.next
            simp only [if_neg GA.out, if_neg GB.out] at hnx
            rw [← HX.out] at hnx
            rw [← HY.out] at hnx
            have HNX := Lib.hid hnx
            clear hnx
            go_wp2
            go_roundw
            case rel => exact ⟨k + 1, X, Y, by omega, by omega, by go_num, by go_num, rfl, rfl, (stampS sA), (stampS s9), HT6.out, by rw [P3.out, P4.out, R3.out, R4.out]; exact HNX.out⟩
            case measure => simp [intOf]; omega
end Go.Proofs.YtkajedgghoboaaaDoor
