/- The walk of the law ClerkLeft: what is left of a lease falls as time goes on, and is nothing when it is over; renewed it is more. The premise: the variable 'whole' holds what its initialiser lays. -/
import Derived.Test.YtkajedgghoboaaaDoorProg
import Derived.Test.YtkajedgghoboaaaDoorRow
import Derived.Test.YtkajedgghoboaaaDoorShow20
namespace Go.Proofs.YtkajedgghoboaaaDoor
open Go.RowKit
set_option linter.unusedVariables false
set_option linter.unusedSimpArgs false
attribute [local go_sem ↓] Go.wp_at_zero Go.wp_at_succ

def lf1 (num slack x : Int) : St := askS (stNew 1 num slack) x
def lf2 (num slack x len : Int) : St := gotS (lf1 num slack x) 1 len
def lf3 (num slack x len y : Int) : St := askS (lf2 num slack x len) y
def lf4 (num slack x len y : Int) : St := gotS (lf3 num slack x len y) 2 len
theorem okT_of {x : Int} (h0 : 0 ≤ x) (h1 : x ≤ 1099511627776) : okT x = true := by simp [okT]; omega
theorem ask_ok {last x : Int} (h0 : 0 ≤ x) (h1 : x ≤ 1099511627776) (hl : last < 1099511627776) : askE last x = 0 := by
  unfold askE
  rw [okT_of h0 h1, if_neg (by simp), if_neg (by omega)]
theorem got_ok {last got seq len : Int} (h0 : 0 ≤ len) (h1 : len ≤ 1099511627776) (h2 : got < seq) (h3 : seq ≤ last) (h4 : last - 16 < seq) : gotE last got seq len = 0 := by
  unfold gotE
  rw [okT_of h0 h1, if_neg (by simp), if_neg (by omega), if_neg (by omega), if_neg (by omega)]
theorem askS_at {s : St} {x : Int} (h : askE s.last x = 0) : (askS s x).last = s.last + 1 ∧ (askS s x).a = upd s.a ((s.last + 1) % 16).toNat x ∧ askV s.last x = s.last + 1 := by
  refine ⟨?_, ?_, ?_⟩
  · show askL s.last x = _
    unfold askL
    rw [if_pos h]
  · show askA s.a s.last x = _
    unfold askA
    rw [if_pos h]
  · unfold askV
    rw [if_pos h]
theorem gotS_at {s : St} {seq len : Int} (h : gotE s.last s.got seq len = 0) : (gotS s seq len).got = seq ∧ (gotS s seq len).till = max s.till (s.a (seq % 16).toNat + margV len s.num s.slack) := by
  refine ⟨?_, ?_⟩
  · show gotG s.last s.got seq len = _
    unfold gotG
    rw [if_pos h]
  · show gotT s.a s.last s.got s.till seq len s.num s.slack = _
    unfold gotT
    rw [if_pos h]
structure LeftF (num slack x len y : Int) : Prop where
  e1 : askE (stNew 1 num slack).last x = 0
  v1 : askV (stNew 1 num slack).last x = 1
  g1 : gotE (lf1 num slack x).last (lf1 num slack x).got 1 len = 0
  t2 : (lf2 num slack x len).till = x + margV len num slack
  e3 : askE (lf2 num slack x len).last y = 0
  v3 : askV (lf2 num slack x len).last y = 2
  g3 : gotE (lf3 num slack x len y).last (lf3 num slack x len y).got 2 len = 0
  t4 : (lf4 num slack x len y).till = max (x + margV len num slack) (y + margV len num slack)
  g4 : gotE (lf4 num slack x len y).last (lf4 num slack x len y).got 1 len = 3
theorem leftF (num slack x len y : Int) (hx0 : 0 ≤ x) (hx : x ≤ 200000) (hl0 : 0 ≤ len) (hl : len ≤ 200000) (hy0 : 0 ≤ y) (hy : y ≤ 200000) : LeftF num slack x len y := by
  have e1 : askE (stNew 1 num slack).last x = 0 := ask_ok hx0 (by omega) (by simp [stNew])
  obtain ⟨a1, a2, a3⟩ := askS_at e1
  have l1 : (lf1 num slack x).last = 1 := a1
  have g1 : gotE (lf1 num slack x).last (lf1 num slack x).got 1 len = 0 := by
    rw [l1]
    exact got_ok hl0 (by omega) (by show (0 : Int) < 1; omega) (by omega) (by omega)
  obtain ⟨b1, b2⟩ := gotS_at g1
  have hm := (margV_bd len num slack).1
  have t2 : (lf2 num slack x len).till = x + margV len num slack := by
    show (gotS (lf1 num slack x) 1 len).till = _
    rw [b2, show (lf1 num slack x).a = upd (stNew 1 num slack).a 1 x from a2]
    show max (-1) (upd _ 1 x 1 + margV len num slack) = _
    unfold upd
    rw [if_pos rfl]
    omega
  have l2 : (lf2 num slack x len).last = 1 := l1
  have e3 : askE (lf2 num slack x len).last y = 0 := by rw [l2]; exact ask_ok hy0 (by omega) (by omega)
  obtain ⟨c1, c2, c3⟩ := askS_at e3
  have l3 : (lf3 num slack x len y).last = 2 := by
    show (askS (lf2 num slack x len) y).last = 2
    rw [c1, l2]; rfl
  have q3 : (lf3 num slack x len y).got = 1 := b1
  have g3 : gotE (lf3 num slack x len y).last (lf3 num slack x len y).got 2 len = 0 := by
    rw [l3, q3]
    exact got_ok hl0 (by omega) (by omega) (by omega) (by omega)
  obtain ⟨d1, d2⟩ := gotS_at g3
  refine ⟨e1, a3, g1, t2, e3, by rw [c3, l2]; rfl, g3, ?_, ?_⟩
  · show (gotS (lf3 num slack x len y) 2 len).till = _
    rw [d2, show (lf3 num slack x len y).a = upd (lf2 num slack x len).a (((lf2 num slack x len).last + 1) % 16).toNat y from c2, l2, show (lf3 num slack x len y).till = (lf2 num slack x len).till from rfl, t2]
    show max _ (upd _ 2 y 2 + margV len num slack) = _
    unfold upd
    rw [if_pos rfl]
  · show gotE (lf3 num slack x len y).last (gotS (lf3 num slack x len y) 2 len).got 1 len = 3
    rw [d1]
    unfold gotE
    rw [okT_of hl0 (by omega), if_neg (by simp), if_pos (by omega)]

set_option maxRecDepth 100000 in
set_option maxHeartbeats 4000000 in
theorem clerkLeft_walk (W : World) (t0 : Whole W) (a0 : Int) (w0 : (Lit.int .u16 a0).wf = true)
    (a1 : Int) (w1 : (Lit.int .u16 a1).wf = true)
    (a2 : Int) (w2 : (Lit.int .u16 a2).wf = true)
    (a3 : Int) (w3 : (Lit.int .u8 a3).wf = true)
    (a4 : Int) (w4 : (Lit.int .u8 a4).wf = true) :
    Calls Tryd.prog 9 #[.int .u16 a0, .int .u16 a1, .int .u16 a2, .int .u8 a3, .int .u8 a4] W fun e w' => e = .returned (.bool true) ∧ Below W.heap.size W w' := by
  obtain ⟨b0, b0'⟩ := bd_u16 w0
  obtain ⟨b1, b1'⟩ := bd_u16 w1
  obtain ⟨b2, b2'⟩ := bd_u16 w2
  obtain ⟨b3, b3'⟩ := bd_u8 w3
  obtain ⟨b4, b4'⟩ := bd_u8 w4
  have HF := Lib.hid (leftF a3 a4 a0 a1 (a0 + a2) b0 (by omega) b1 (by omega) (by omega) (by omega))
  obtain ⟨M, hM⟩ : ∃ M, M = margV a1 a3 a4 := ⟨_, rfl⟩
  have hmb := margV_bd a1 a3 a4
  rw [← hM] at hmb
  have m0 : 0 ≤ M := hmb.1
  have m1 : M ≤ a1 := by
    have h := hmb.2.1
    unfold clampV at h
    omega
  have HMM := Lib.hid hM
  have C0 := Lib.hid (shown20_calls W t0)
  have HT := Lib.hid t0
  clear t0 w0 w1 w2 w3 w4 hM hmb
  go_enter Tryd.func9, Tryd.ntmps9
  go_wp2_with fail
  refine C0.out.mono ?_
  rintro e z0 ⟨rfl, n0⟩
  have HW0 := Lib.hid (HT.out.mod n0 (by simp))
  have HN0 := Lib.hid n0
  have s0 := n0.size
  clear n0
  go_wp2_with fail
  refine (ckNew_calls z0 1 a3 a4 HW0.out).mono ?_
  rintro e z1 ⟨k, b, p, q, bT, rfl, h1, n1, l1, l2, l3, l4, l5⟩
  have H1 := Lib.hid h1
  have c0 := h1.c0
  have HN1 := Lib.hid (HN0.out.trans n1)
  clear h1 n1
  go_wp2_with fail
  refine (ckLeft_calls z1 k b p q bT _ _ H1.out (by omega)).mono ?_
  rintro e z' ⟨rfl, rfl⟩
  rw [show leftV (stNew 1 a3 a4).till a0 = 0 by show max 0 (-1 - max a0 0) = 0; omega]
  go_wp2_with fail
  refine (ckAsk_calls z1 k b p q bT _ a0 H1.out).mono ?_
  rintro e z2 ⟨rfl, h2, n2⟩
  rw [HF.out.e1, HF.out.v1]
  have H2 : Hid (Clk z2 k b p q bT (lf1 a3 a4 a0)) := Lib.hid h2
  have HN2 := Lib.hid (HN1.out.fresh n2 (fun x hx => .inr (by simp at hx; omega)))
  clear h2 n2 c0
  go_wp2_with fail
  refine (ckGot_calls z2 k b p q bT _ 1 a1 H2.out).mono ?_
  rintro e z3 ⟨rfl, h3, n3⟩
  rw [HF.out.g1]
  have H3 : Hid (Clk z3 k b p q bT (lf2 a3 a4 a0 a1)) := Lib.hid h3
  have HN3 := Lib.hid (HN2.out.fresh n3 (fun x hx => .inr (by simp at hx; omega)))
  have c0 := h3.c0
  clear h3 n3
  go_wp2_with fail
  refine (ckLeft_calls z3 k b p q bT _ _ H3.out (by omega)).mono ?_
  rintro e z' ⟨rfl, rfl⟩
  rw [show leftV (lf2 a3 a4 a0 a1).till a0 = M by rw [HF.out.t2, ← HMM.out]; unfold leftV; omega]
  go_wp2_with fail
  refine (ckLeft_calls z3 k b p q bT _ _ H3.out (by omega)).mono ?_
  rintro e z' ⟨rfl, rfl⟩
  obtain ⟨Q, hQ⟩ : ∃ Q, Q = leftV (lf2 a3 a4 a0 a1).till (a0 + a2) := ⟨_, rfl⟩
  have hQ2 : Q = max 0 (M - a2) := by rw [hQ, HF.out.t2, ← HMM.out]; unfold leftV; omega
  rw [← hQ]
  have HQ2 := Lib.hid hQ2
  clear hQ hQ2
  have hm1 : ¬ a1 < M := by omega
  have hqm : ¬ M < Q := by have := HQ2.out; omega
  have two : (a2 < M ∧ Q = M - a2) ∨ (¬ a2 < M ∧ Q = 0) := by have := HQ2.out; omega
  rcases two with ⟨hq1, rfl⟩ | ⟨hq1, rfl⟩
  · have hq2 : 0 < M - a2 := by omega
    clear HQ2
    go_wp2_with fail
    refine (ckLeft_calls z3 k b p q bT _ _ H3.out (by omega)).mono ?_
    rintro e z' ⟨rfl, rfl⟩
    rw [show leftV (lf2 a3 a4 a0 a1).till (a0 + M + 1) = 0 by rw [HF.out.t2, ← HMM.out]; unfold leftV; omega]
    go_wp2_with fail
    refine (ckAsk_calls z3 k b p q bT _ (a0 + a2) H3.out).mono ?_
    rintro e z4 ⟨rfl, h4, n4⟩
    rw [HF.out.e3, HF.out.v3]
    have H4 : Hid (Clk z4 k b p q bT (lf3 a3 a4 a0 a1 (a0 + a2))) := Lib.hid h4
    have HN4 := Lib.hid (HN3.out.fresh n4 (fun x hx => .inr (by simp at hx; omega)))
    clear h4 n4 c0
    go_wp2_with fail
    refine (ckGot_calls z4 k b p q bT _ 2 a1 H4.out).mono ?_
    rintro e z5 ⟨rfl, h5, n5⟩
    rw [HF.out.g3]
    have H5 : Hid (Clk z5 k b p q bT (lf4 a3 a4 a0 a1 (a0 + a2))) := Lib.hid h5
    have HN5 := Lib.hid (HN4.out.fresh n5 (fun x hx => .inr (by simp at hx; omega)))
    clear h5 n5
    go_wp2_with fail
    refine (ckLeft_calls z5 k b p q bT _ _ H5.out (by omega)).mono ?_
    rintro e z' ⟨rfl, rfl⟩
    rw [show leftV (lf4 a3 a4 a0 a1 (a0 + a2)).till (a0 + a2) = M by rw [HF.out.t4, ← HMM.out]; unfold leftV; omega]
    go_wp2_with fail
    refine (ckGot_calls z5 k b p q bT _ 1 a1 H5.out).mono ?_
    rintro e z6 ⟨rfl, h6, n6⟩
    rw [HF.out.g4]
    have HN6 := Lib.hid (HN5.out.fresh n6 (fun x hx => .inr (by simp at hx; omega)))
    clear h6 n6
    go_wp2
    go_ret
    exact ⟨rfl, HN6.out.below (Nat.le_refl _) (by simp)⟩
  · have hq2 : ¬ 0 < M - a2 := by omega
    clear HQ2
    go_wp2_with fail
    refine (ckLeft_calls z3 k b p q bT _ _ H3.out (by omega)).mono ?_
    rintro e z' ⟨rfl, rfl⟩
    rw [show leftV (lf2 a3 a4 a0 a1).till (a0 + M + 1) = 0 by rw [HF.out.t2, ← HMM.out]; unfold leftV; omega]
    go_wp2_with fail
    refine (ckAsk_calls z3 k b p q bT _ (a0 + a2) H3.out).mono ?_
    rintro e z4 ⟨rfl, h4, n4⟩
    rw [HF.out.e3, HF.out.v3]
    have H4 : Hid (Clk z4 k b p q bT (lf3 a3 a4 a0 a1 (a0 + a2))) := Lib.hid h4
    have HN4 := Lib.hid (HN3.out.fresh n4 (fun x hx => .inr (by simp at hx; omega)))
    clear h4 n4 c0
    go_wp2_with fail
    refine (ckGot_calls z4 k b p q bT _ 2 a1 H4.out).mono ?_
    rintro e z5 ⟨rfl, h5, n5⟩
    rw [HF.out.g3]
    have H5 : Hid (Clk z5 k b p q bT (lf4 a3 a4 a0 a1 (a0 + a2))) := Lib.hid h5
    have HN5 := Lib.hid (HN4.out.fresh n5 (fun x hx => .inr (by simp at hx; omega)))
    clear h5 n5
    go_wp2_with fail
    refine (ckLeft_calls z5 k b p q bT _ _ H5.out (by omega)).mono ?_
    rintro e z' ⟨rfl, rfl⟩
    rw [show leftV (lf4 a3 a4 a0 a1 (a0 + a2)).till (a0 + a2) = M by rw [HF.out.t4, ← HMM.out]; unfold leftV; omega]
    go_wp2_with fail
    refine (ckGot_calls z5 k b p q bT _ 1 a1 H5.out).mono ?_
    rintro e z6 ⟨rfl, h6, n6⟩
    rw [HF.out.g4]
    have HN6 := Lib.hid (HN5.out.fresh n6 (fun x hx => .inr (by simp at hx; omega)))
    clear h6 n6
    go_wp2
    go_ret
    exact ⟨rfl, HN6.out.below (Nat.le_refl _) (by simp)⟩
end Go.Proofs.YtkajedgghoboaaaDoor
