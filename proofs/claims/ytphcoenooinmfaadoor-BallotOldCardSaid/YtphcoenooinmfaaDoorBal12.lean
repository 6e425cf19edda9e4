/- An acceptor's bytes: Save, the program's and the document's. Premises: the variables 'steps' and 'errorType' are as laid. -/
import Derived.Test.YtphcoenooinmfaaDoorBal11
import Derived.Test.YtphcoenooinmfaaDoorNr
namespace Go.Proofs.YtphcoenooinmfaaDoor
open Go.RowKit
set_option linter.unusedVariables false
set_option linter.unusedSimpArgs false
attribute [local go_sem ↓] Go.wp_at_zero Go.wp_at_succ

def votB (bs : List UInt8) (x : VoteT) : List UInt8 := textB (numB (numB bs x.s 2) x.b 8) x.v
def savK (p : Int) (L : List VoteT) (k : Nat) : List UInt8 := (L.take k).foldl votB (numB (numB [] p 8) L.length 2)
def savB (p : Int) (L : List VoteT) : List UInt8 := L.foldl votB (numB (numB [] p 8) L.length 2)
theorem savK_succ (p : Int) (L : List VoteT) (k : Nat) (hk : k < L.length) : savK p L (k + 1) = votB (savK p L k) (L.getD k VoteT.zero) := by
  unfold savK
  rw [← take_snoc L k hk, List.foldl_append]
  rfl
theorem savK_zero (p : Int) (L : List VoteT) : savK p L 0 = numB (numB [] p 8) L.length 2 := by unfold savK; rw [List.take_zero, List.foldl_nil]
theorem savK_all (p : Int) (L : List VoteT) : savK p L L.length = savB p L := by unfold savK savB; rw [List.take_length]
/-- Votes that can be written. -/
def okL (L : List VoteT) : Prop := ∀ k, k < L.length → 0 ≤ (L.getD k VoteT.zero).s ∧ (L.getD k VoteT.zero).s ≤ 4095 ∧ 1 ≤ (L.getD k VoteT.zero).b ∧ (L.getD k VoteT.zero).b ≤ 1099511627776 ∧ (L.getD k VoteT.zero).v.size ≤ 1024
theorem votesN_mem {g : Nat → Option VoteT} {n k : Nat} (hk : k < (votesN g n).length) : ∃ i, i < n ∧ g i = some ((votesN g n).getD k VoteT.zero) := by
  have hm : (votesN g n).getD k VoteT.zero ∈ votesN g n := by
    rw [List.getD_eq_getElem?_getD, List.getElem?_eq_getElem hk]
    exact List.getElem_mem hk
  generalize (votesN g n).getD k VoteT.zero = y at *
  unfold votesN at hm
  rw [List.mem_filterMap] at hm
  obtain ⟨i, hi, he⟩ := hm
  exact ⟨i, List.mem_range.1 hi, he⟩
theorem okL_of {p : Int} {g : Nat → Option VoteT} (h : okG p g) : okL (votesN g 4096) := by
  intro k hk
  obtain ⟨i, hi, he⟩ := votesN_mem hk
  obtain ⟨h1, h2, h3⟩ := h
  have h4 := h3 i _ hi he
  clear h3 he
  generalize (votesN g 4096).getD k VoteT.zero = y at h4 ⊢
  clear hk
  obtain ⟨a1, a2, a3, a4⟩ := h4
  exact ⟨by omega, by omega, a2, Int.le_trans a3 h2, a4⟩
theorem savK_len {p : Int} {L : List VoteT} (h : okL L) (k : Nat) (hk : k ≤ L.length) : (savK p L k).length ≤ 16 + 1042 * k := by
  induction k with
  | zero =>
    rw [savK_zero]
    have h1 := numB_len (numB [] p 8) (L.length : Int) 2
    have h2 := numB_len [] p 8
    rw [List.length_nil] at h2
    omega
  | succ k ih =>
    rw [savK_succ p L k (by omega)]
    have h0 := h k (by omega)
    have h1 := ih (by omega)
    generalize L.getD k VoteT.zero = x at *
    unfold votB
    have h2 := numB_len (savK p L k) x.s 2
    have h3 := numB_len (numB (savK p L k) x.s 2) x.b 8
    have h4 := textB_len (numB (numB (savK p L k) x.s 2) x.b 8) x.v
    omega
/-- A writer of a call's own, blocks of others apart from it. -/
structure SV (W w : World) (T b : Nat) (bs : List UInt8) (F G : List Nat) : Prop where
  n : Nw W w
  p : WtrN W w T b bs F
  dj : ∀ x, x ∈ F → x ∉ G
  lt : ∀ x, x ∈ G → x < w.heap.size
namespace SV
variable {W w w' : World} {T b : Nat} {bs bs' : List UInt8} {F F' G : List Nat}
theorem step0 (h : SV W w T b bs F G) (m : Mod [] w w') : SV W w' T b bs F G := ⟨h.n.step0 m, h.p.mod0 m, h.dj, fun x hx => Nat.lt_of_lt_of_le (h.lt x hx) m.size⟩
theorem step (h : SV W w T b bs F G) (hW : WtrN W w' T b bs' F') (hG : Grow F F' w w') (hN : Nw W w') : SV W w' T b bs' F' G := ⟨hN, hW, hG.dj h.dj h.lt, fun x hx => Nat.lt_of_lt_of_le (h.lt x hx) hG.mod.size⟩
theorem arr (h : SV W w T b bs F G) (hG : Grow F F' w w') {c U N : Nat} {f : Nat → Value} (hA : Arr w c U N f) (hc : c ∈ G) : Arr w' c U N f := hA.mod hG.mod (fun hx => h.dj c hx hc)
theorem own (h : SV W w T b bs F G) (hG : Grow F F' w w') {v : Value} {B U sz n : Nat} {xs : List Value} (ho : w.ownsRow B U sz v n xs) (hc : ∀ k, v.ownBlock = some k → k ∈ G) : w'.ownsRow B U sz v n xs := own_mod ho hG.mod (fun k hk hx => h.dj k hx (hc k hk))
theorem more (h : SV W w T b bs F G) {c : Nat} (hc : c < w.heap.size) (hF : c ∉ F) : SV W w T b bs F (c :: G) := ⟨h.n, h.p, fun x hx hg => by
  rcases List.mem_cons.1 hg with e | e
  · subst e; exact hF hx
  · exact h.dj x hx e, fun x hx => by
  rcases List.mem_cons.1 hx with e | e
  · subst e; exact hc
  · exact h.lt x e⟩
theorem less (h : SV W w T b bs F G) {G' : List Nat} (hs : ∀ x, x ∈ G' → x ∈ G) : SV W w T b bs F G' := ⟨h.n, h.p, fun x hx hg => h.dj x hx (hs x hg), fun x hx => h.lt x (hs x hx)⟩
theorem fresh (h : SV W w T b bs F G) : w.heap.size ∉ F := fun hx => by have := h.p.h.lt _ hx; omega
end SV
def SavePost (w : World) (p : Int) (L : List VoteT) (r : Ending) (w' : World) : Prop := r = .returned (.string (sealB (txt (savB p L)))) ∧ Mod [] w w'
set_option maxRecDepth 100000 in
set_option maxHeartbeats 4000000 in
theorem save_calls (w : World) (a : Nat) (p : Int) (g : Nat → Option VoteT) (f : Nat → Nat) (h : AccP w a p g f) (hok : okG p g) (hl : (votesN g 4096).length ≤ 350) (hT : Steps w) (hE : ErrT w) :
    Calls Tryd.prog 40 #[.pointer (some ⟨a, 0, none⟩)] w (SavePost w p (votesN g 4096)) := by
  have HOL := Lib.hid (okL_of hok)
  have hla := flt_all hok
  have hp0 := hok.1
  have hp1 := hok.2.1
  have N0 := Lib.hid (Nw.refl hE)
  have HP := Lib.hid h
  have HT := Lib.hid hT
  obtain ⟨L, hL⟩ : ∃ L, L = votesN g 4096 := ⟨_, rfl⟩
  rw [← hL] at hla hl HOL ⊢
  have HLA := Lib.hid hla
  have HSK := Lib.hid (savK_succ p L)
  have HSL := Lib.hid (fun k hk => savK_len (p := p) HOL.out k hk)
  have HSA := Lib.hid (savK_all p L)
  have HS0 : Hid (savK p L 0 = numB (numB [] p 8) L.length 2) := Lib.hid (savK_zero p L)
  clear h hok hT hE hla hL
  go_enter Tryd.func40, Tryd.ntmps40
  go_wp2_with fail
  refine (newWriterN N0.out).mono ?_
  rintro r w1 ⟨b, rfl, hb, hW1, m1, hN1⟩
  have V := Lib.hid (votes_calls w1 a p g f (HP.out.mod m1))
  rw [HLA.out] at V
  have B1 := Lib.hid hb
  have W1 := Lib.hid (And.intro hW1 (And.intro m1 hN1))
  clear hb hW1 m1 hN1
  go_wp2_with fail
  (with_reducible refine V.out.mono ?_)
  rintro r w2 ⟨v, rfl, ho, m2⟩
  have hbl : b < w1.heap.size := W1.out.1.h.lt b (by simp)
  have hS2 : SV w w2 144 b [] [b] (v.ownBlock.toList) := ⟨W1.out.2.2.step0 m2, W1.out.1.mod0 m2, fun x hx hg => by
    simp at hx
    subst hx
    have := (own_lt' ho x (by simpa using hg)).1
    omega, fun x hx => (own_lt' ho x (by simpa using hx)).2⟩
  have hA2 := (HP.out.mod W1.out.2.1).mod m2
  have q0 := hA2.c0
  obtain ⟨A, cap, rfl, hc, hm, -⟩ := (own_slA ho).ex
  have hcap : cap ≤ 9223372036854775807 := by unfold maxLen at hm; omega
  have S2 := Lib.hid hS2
  have O2 := Lib.hid ho
  clear V ho m2 hm hS2 hA2 W1
  have P3 := Lib.hid (wnumN p 8 S2.out.n S2.out.p (by omega) (by omega) (by omega) (by omega) (by simp))
  go_wp2_with fail
  (with_reducible refine P3.out.mono ?_)
  rintro r w3 ⟨v3, E3, F3, rfl, -, -, hW3, hG3, hN3⟩
  have S3 := Lib.hid (S2.out.step hW3 hG3 hN3)
  have O3 := Lib.hid (S2.out.own hG3 O2.out (fun k hk => by simpa using hk))
  clear hW3 hG3 hN3 q0 P3
  have hl8 := numB_len [] p 8
  have P4 := Lib.hid (wnumN (L.length : Int) 2 S3.out.n S3.out.p (by omega) (by omega) (by omega) (by omega) (by simp at hl8; omega))
  clear hl8
  go_wp2_with fail
  (with_reducible refine P4.out.mono ?_)
  rintro r w4 ⟨v4, E4, F4, rfl, -, -, hW4, hG4, hN4⟩
  have hS4 := S3.out.step hW4 hG4 hN4
  rw [← HS0.out] at hS4
  have S4 := Lib.hid hS4
  have O4 := Lib.hid (S3.out.own hG4 O3.out (fun k hk => by simpa using hk))
  clear hW4 hG4 hN4 P4 hS4
  go_wp2
  go_loopw [22] (fun i wr => ∃ (k : Nat) (F : List Nat), k ≤ L.length ∧ i = .int .i64 k ∧ SV w wr 144 b (savK p L k) F (Value.ownBlock (.slice A L.length cap)).toList ∧ wr.ownsRow w1.heap.size 33 3 (.slice A L.length cap) L.length (vcells L)) (fun i _ => L.length - (intOf i).toNat)
  case atStart => exact ⟨0, _, Nat.zero_le _, rfl, S4.out, O4.out⟩
  case round =>
    obtain ⟨k, F, hk, rfl, hS, ho⟩ := hrel
    clear S4 O4
    have hbl := HSL.out k hk
    by_cases hlt : k < L.length
    · have i0 : (0 : Int) ≤ (k : Int) := by omega
      have i1 : (k : Int) < (L.length : Int) := by omega
      obtain ⟨A', cap', e, -, -, hx⟩ := (own_slA ho).ex
      injection e with e1 e2 e3
      subst e1
      obtain ⟨bb, off, rfl, hcell⟩ := hx (by omega)
      have x0 := hcell k 0 hlt (by omega)
      have x1 := hcell k 1 hlt (by omega)
      have x2 := hcell k 2 hlt (by omega)
      rw [vcells_get L k 0 hlt (by omega)] at x0
      rw [vcells_get L k 1 hlt (by omega)] at x1
      rw [vcells_get L k 2 hlt (by omega)] at x2
      unfold vF VoteT.cF at x0 x1 x2
      simp only [if_true, if_false, Nat.reduceEqDiff, Nat.add_zero] at x0 x1 x2
      obtain ⟨g0, g1, g2, g3, g4⟩ := HOL.out k hlt
      have hst := HSK.out k hlt
      generalize L.getD k VoteT.zero = x at *
      obtain ⟨wa, hwa⟩ : ∃ wa, wa = wr.alloc (.cells #[.int .i64 x.s, .int .i64 x.b, .string x.v] 33) := ⟨_, rfl⟩
      have ma : Mod [] wr wa := by rw [hwa]; exact (Mod.refl _ _).alloc _
      have aa : Arr wa wr.heap.size 33 3 x.cF := by rw [hwa]; exact vote_new wr _ x
      have hSa := (hS.step0 ma).more (c := wr.heap.size) aa.lt hS.fresh
      have SA := Lib.hid hSa
      have OA := Lib.hid (own_mod ho ma (by simp))
      have AA := Lib.hid aa
      have HWA := Lib.hid hwa
      have HST := Lib.hid hst
      have cc0 := aa.cell 0 (by omega)
      unfold VoteT.cF at cc0
      simp only [if_true, if_false, Nat.reduceEqDiff] at cc0
      rw [hwa] at cc0
      have Q1 := Lib.hid (wnumN x.s 2 SA.out.n SA.out.p (by omega) (by omega) (by omega) (by omega) (by omega))
      obtain ⟨s0, b0, t0⟩ := x
      simp only at x0 x1 x2 g0 g1 g2 g3 g4 cc0 Q1 HWA
      clear hS ho hx hcell ma hwa aa hSa hst e2 e3
      go_wp2_with fail
      rw [← HWA.out]
      (with_reducible refine Q1.out.mono ?_)
      rintro r w5 ⟨v5, E5, F5, rfl, -, -, hW5, hG5, hN5⟩
      have S5 := Lib.hid (SA.out.step hW5 hG5 hN5)
      have O5 := Lib.hid (SA.out.own hG5 OA.out (fun k hk => by simp [Value.ownBlock] at hk ⊢; exact .inr hk.symm))
      have A5 := Lib.hid (SA.out.arr hG5 AA.out (by simp))
      have cc1 := A5.out.cell 1 (by omega)
      unfold VoteT.cF at cc1
      simp only [if_true, if_false, Nat.reduceEqDiff] at cc1
      clear hW5 hG5 hN5 Q1 SA OA AA
      have hl5 := numB_len (savK p L k) s0 2
      have Q2 := Lib.hid (wnumN b0 8 S5.out.n S5.out.p (by omega) (by omega) (by omega) (by omega) (by omega))
      go_wp2_with fail
      (with_reducible refine Q2.out.mono ?_)
      rintro r w6 ⟨v6, E6, F6, rfl, -, -, hW6, hG6, hN6⟩
      have S6 := Lib.hid (S5.out.step hW6 hG6 hN6)
      have O6 := Lib.hid (S5.out.own hG6 O5.out (fun k hk => by simp [Value.ownBlock] at hk ⊢; exact .inr hk.symm))
      have A6 := Lib.hid (S5.out.arr hG6 A5.out (by simp))
      have cc2 := A6.out.cell 2 (by omega)
      unfold VoteT.cF at cc2
      simp only [if_true, if_false, Nat.reduceEqDiff] at cc2
      clear hW6 hG6 hN6 Q2 S5 O5 A5
      have hl6 := numB_len (numB (savK p L k) s0 2) b0 8
      have Q3 := Lib.hid (wtextN t0 S6.out.n S6.out.p (by omega) (by omega))
      go_wp2_with fail
      (with_reducible refine Q3.out.mono ?_)
      rintro r w7 ⟨v7, E7, F7, rfl, -, -, hW7, hG7, hN7⟩
      have hS7 := S6.out.step hW7 hG7 hN7
      have O7 := Lib.hid (S6.out.own hG7 O6.out (fun k hk => by simp [Value.ownBlock] at hk ⊢; exact .inr hk.symm))
      have S7 := Lib.hid (hS7.less (G' := (Value.ownBlock (.slice (some ⟨bb, off, none⟩) L.length cap)).toList) (fun x hx => List.mem_cons_of_mem _ hx))
      clear hW7 hG7 hN7 Q3 S6 O6 A6 hS7
      go_wp2
      go_roundw
      case rel => exact ⟨k + 1, _, by omega, by go_num, by rw [HST.out]; exact S7.out, O7.out⟩
      case measure => simp [intOf]; omega
    · have i1 : ¬ (k : Int) < (L.length : Int) := by omega
      obtain rfl : k = L.length := by omega
      have S8 := Lib.hid hS
      rw [HSA.out] at S8 hbl
      clear hS ho
      go_wp2_with fail
      refine (wbytes_calls wr b _ F S8.out.p.h).mono ?_
      rintro r w9 ⟨rfl, rfl⟩
      go_wp2_with fail
      refine (seal_calls wr _ (by show (txt (savB p L)).size ≤ _; rw [txt_size]; omega) (HT.out.mod S8.out.n.mod (by simp))).mono ?_
      rintro r w9 ⟨rfl, m9⟩
      have F9 : Hid (SavePost w p L (.returned (.string (sealB (txt (savB p L))))) w9) := Lib.hid ⟨rfl, S8.out.n.mod.trans m9⟩
      clear m9
      go_wp2
      go_ret
      exact F9.out
end Go.Proofs.YtphcoenooinmfaaDoor
