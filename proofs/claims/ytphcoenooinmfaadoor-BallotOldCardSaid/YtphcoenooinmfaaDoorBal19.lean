/- What was saved is loaded; what is loaded is saved as it was: plain laws. No further condition. -/
import Derived.Test.YtphcoenooinmfaaDoorBal18
import Derived.Test.YtphcoenooinmfaaDoorRdB
namespace Go.Proofs.YtphcoenooinmfaaDoor
open Go.RowKit
set_option linter.unusedVariables false
set_option linter.unusedSimpArgs false

theorem numB_fit {bs : List UInt8} {n : Int} {k : Nat} (hw : wideB k = true) (h0 : 0 ≤ n) (h : k = 8 ∨ n.toNat < 256 ^ k) : numB bs n k = bs ++ leB n.toNat k := by
  unfold numB
  have hf : fitB n k = true := by
    unfold fitB
    rw [hw]
    simp only [Bool.true_and, decide_eq_true_eq]
    refine ⟨h0, ?_⟩
    rcases h with e | e
    · exact .inl (by omega)
    · refine .inr ?_
      rw [Int.toNat_natCast]
      have e2 : ((2 : Int) ^ (8 * k)) = ((2 ^ (8 * k) : Nat) : Int) := by simp
      rw [pow256 k] at e
      rw [e2]
      omega
  rw [if_pos hf, Int.toNat_natCast]
/-- A vote that may be written. -/
def okV (x : VoteT) : Prop := 0 ≤ x.s ∧ x.s ≤ 4095 ∧ 1 ≤ x.b ∧ x.b ≤ 1099511627776 ∧ x.v.size ≤ 1024
theorem votB_ok {bs : List UInt8} {x : VoteT} (h : okV x) : votB bs x = bs ++ leB x.s.toNat 2 ++ leB x.b.toNat 8 ++ leB x.v.size 2 ++ x.v.data.toList := by
  obtain ⟨h0, h1, h2, h3, h4⟩ := h
  unfold votB
  have e1 : numB bs x.s ((2 : Nat) : Int) = bs ++ leB x.s.toNat 2 := numB_fit (by decide) h0 (.inr (by omega))
  have e2 : ∀ cs, numB cs x.b ((8 : Nat) : Int) = cs ++ leB x.b.toNat 8 := fun cs => numB_fit (by decide) (by omega) (.inl rfl)
  have e1' : numB bs x.s 2 = bs ++ leB x.s.toNat 2 := e1
  have e2' : numB (bs ++ leB x.s.toNat 2) x.b 8 = bs ++ leB x.s.toNat 2 ++ leB x.b.toNat 8 := e2 _
  rw [e1', e2']
  unfold textB
  rw [if_pos h4]
theorem votB_read {bs rest : List UInt8} {x : VoteT} (h : okV x) {t : ByteArray} (ht : t = txt (votB bs x ++ rest)) :
    rdL t bs.length 2 = [] ∧ rdL t (rdA t bs.length 2) 8 = [] ∧ rtL t (rdA t (rdA t bs.length 2) 8) = [] ∧ ldX t bs.length = x ∧ ldA t bs.length = (votB bs x).length := by
  obtain ⟨h0, h1, h2, h3, h4⟩ := id h
  rw [votB_ok h] at ht
  have r1 := rd_at bs (leB x.b.toNat 8 ++ leB x.v.size 2 ++ x.v.data.toList ++ rest) x.s.toNat 2 (by decide) (by omega) (by omega)
  rw [show bs ++ leB x.s.toNat 2 ++ (leB x.b.toNat 8 ++ leB x.v.size 2 ++ x.v.data.toList ++ rest) = bs ++ leB x.s.toNat 2 ++ leB x.b.toNat 8 ++ leB x.v.size 2 ++ x.v.data.toList ++ rest by simp only [List.append_assoc], ← ht] at r1
  obtain ⟨a1, a2, a3⟩ := r1
  have r2 := rd_at (bs ++ leB x.s.toNat 2) (leB x.v.size 2 ++ x.v.data.toList ++ rest) x.b.toNat 8 (by decide) (by omega) (by omega)
  rw [show bs ++ leB x.s.toNat 2 ++ leB x.b.toNat 8 ++ (leB x.v.size 2 ++ x.v.data.toList ++ rest) = bs ++ leB x.s.toNat 2 ++ leB x.b.toNat 8 ++ leB x.v.size 2 ++ x.v.data.toList ++ rest by simp only [List.append_assoc], ← ht] at r2
  obtain ⟨b1, b2, b3⟩ := r2
  have r3 := rt_at (bs ++ leB x.s.toNat 2 ++ leB x.b.toNat 8) rest x.v h4
  rw [← ht] at r3
  obtain ⟨c1, c2, c3⟩ := r3
  have l1 : (bs ++ leB x.s.toNat 2).length = bs.length + 2 := by rw [List.length_append, leB_length]
  have l2 : (bs ++ leB x.s.toNat 2 ++ leB x.b.toNat 8).length = bs.length + 2 + 8 := by rw [List.length_append, l1, leB_length]
  rw [l1] at b1 b2 b3
  rw [l2] at c1 c2 c3
  have a1' : rdL t bs.length 2 = [] := a1
  have a2' : rdN t bs.length 2 = (x.s.toNat : Int) := a2
  have a3' : rdA t bs.length 2 = bs.length + 2 := a3
  have b1' : rdL t (bs.length + 2) 8 = [] := b1
  have b2' : rdN t (bs.length + 2) 8 = (x.b.toNat : Int) := b2
  have b3' : rdA t (bs.length + 2) 8 = bs.length + 2 + 8 := b3
  unfold ldX ldA
  rw [a3', b3', a2', b2', c2, c3]
  refine ⟨a1', b1', c1, ?_, ?_⟩
  · obtain ⟨s, b, v⟩ := x
    simp only at h0 h2 ⊢
    rw [show ((s.toNat : Nat) : Int) = s by omega, show ((b.toNat : Nat) : Int) = b by omega]
  · rw [votB_ok h, List.length_append, List.length_append, l2, leB_length]
    show _ = _ + x.v.data.toList.length
    have : x.v.data.toList.length = x.v.size := rfl
    omega
theorem fold_pre (L : List VoteT) (bs : List UInt8) : ∃ rest, L.foldl votB bs = bs ++ rest ∨ ¬ ∀ x ∈ L, okV x := by
  induction L generalizing bs with
  | nil => exact ⟨[], .inl (by simp)⟩
  | cons x L ih =>
    obtain ⟨rest, h | h⟩ := ih (votB bs x)
    · by_cases hx : okV x
      · refine ⟨leB x.s.toNat 2 ++ leB x.b.toNat 8 ++ leB x.v.size 2 ++ x.v.data.toList ++ rest, .inl ?_⟩
        rw [List.foldl_cons, h, votB_ok hx]
        simp only [List.append_assoc]
      · exact ⟨[], .inr (fun q => hx (q x (by simp)))⟩
    · exact ⟨[], .inr (fun q => h (fun y hy => q y (by simp [hy])))⟩
theorem fold_pre' {L : List VoteT} (h : ∀ x ∈ L, okV x) (bs : List UInt8) : ∃ rest, L.foldl votB bs = bs ++ rest := by
  obtain ⟨rest, e | e⟩ := fold_pre L bs
  · exact ⟨rest, e⟩
  · exact absurd h e
theorem votesN_pre (g : Nat → Option VoteT) (n : Nat) : ∀ m, ∃ R, votesN g (n + m) = votesN g n ++ R ∧ ∀ x, x ∈ R → ∃ i, n ≤ i ∧ i < n + m ∧ g i = some x := by
  intro m
  induction m with
  | zero => exact ⟨[], by simp, by simp⟩
  | succ m ih =>
    obtain ⟨R, h1, h2⟩ := ih
    refine ⟨R ++ (g (n + m)).toList, ?_, fun x hx => ?_⟩
    · rw [← Nat.add_assoc, votesN_succ, h1, List.append_assoc]
    · rcases List.mem_append.1 hx with hx | hx
      · obtain ⟨i, a, b, c⟩ := h2 x hx
        exact ⟨i, a, by omega, c⟩
      · cases hg : g (n + m) with
        | none => rw [hg] at hx; simp at hx
        | some y =>
          rw [hg] at hx
          simp at hx
          subst hx
          exact ⟨n + m, by omega, by omega, hg⟩
def cutG (g : Nat → Option VoteT) (n : Nat) : Nat → Option VoteT := fun i => if i < n then g i else none
theorem okV_of {p : Int} {g : Nat → Option VoteT} (h : okG p g) {i : Nat} {y : VoteT} (hi : i < 4096) (hy : g i = some y) : okV y ∧ y.s = (i : Int) ∧ y.b ≤ p := by
  obtain ⟨h1, h2, h3⟩ := h
  obtain ⟨a1, a2, a3, a4⟩ := h3 i y hi hy
  exact ⟨⟨by omega, by omega, a2, Int.le_trans a3 h2, a4⟩, a1, a3⟩
theorem accE_okV {y : VoteT} (h : okV y) : accE 0 y = 0 := by
  obtain ⟨h0, h1, h2, h3, h4⟩ := h
  unfold accE
  have hb : balB y.b = true := balB_yes ⟨h2, h3⟩
  rw [if_neg (by rw [hb]; simp; omega), if_neg (by omega), if_neg (by omega)]
def hdB (p : Int) (m : Nat) : List UInt8 := numB (numB [] p 8) m 2
theorem hd_ok {p : Int} {m : Nat} (h0 : 0 ≤ p) (hm : m < 65536) : hdB p m = leB p.toNat 8 ++ leB m 2 := by
  unfold hdB
  have e1 : numB [] p ((8 : Nat) : Int) = [] ++ leB p.toNat 8 := numB_fit (by decide) h0 (.inl rfl)
  have e1' : numB [] p 8 = leB p.toNat 8 := by simpa using e1
  have e2 : numB (leB p.toNat 8) (m : Int) ((2 : Nat) : Int) = leB p.toNat 8 ++ leB (m : Int).toNat 2 := numB_fit (by decide) (by omega) (.inr (by rw [Int.toNat_natCast]; omega))
  rw [e1']
  rw [Int.toNat_natCast] at e2
  exact e2
theorem hd_read {p : Int} {m : Nat} {rest : List UInt8} (h0 : 0 ≤ p) (hp : p ≤ 1099511627776) (hm : m < 65536) {t : ByteArray} (ht : t = txt (hdB p m ++ rest)) :
    ldHead t ∧ ldP t = p ∧ ldN t = (m : Int) ∧ rdA t (rdA t 0 8) 2 = (hdB p m).length := by
  rw [hd_ok h0 hm] at ht
  have r1 := rd_at [] (leB m 2 ++ rest) p.toNat 8 (by decide) (by omega) (by omega)
  rw [show [] ++ leB p.toNat 8 ++ (leB m 2 ++ rest) = leB p.toNat 8 ++ leB m 2 ++ rest by simp only [List.append_assoc, List.nil_append], ← ht] at r1
  obtain ⟨a1, a2, a3⟩ := r1
  have r2 := rd_at (leB p.toNat 8) rest m 2 (by decide) (by omega) (by omega)
  rw [← ht, leB_length] at r2
  obtain ⟨b1, b2, b3⟩ := r2
  have a1' : rdL t 0 8 = [] := a1
  have a2' : rdN t 0 8 = (p.toNat : Int) := a2
  have a3' : rdA t 0 8 = 8 := by simpa using a3
  have b1' : rdL t 8 2 = [] := b1
  have b2' : rdN t 8 2 = (m : Int) := b2
  have b3' : rdA t 8 2 = 8 + 2 := b3
  unfold ldHead ldP ldN
  rw [a3', a2', b2', b3']
  refine ⟨⟨a1', b1'⟩, by omega, rfl, ?_⟩
  rw [hd_ok h0 hm, List.length_append, leB_length, leB_length]
/-- What was saved is loaded. -/
theorem ld_sav {p : Int} {g : Nat → Option VoteT} (h : okG p g) : ∃ g', ldAcc (txt (savB p (votesN g 4096))) = some (p, g') ∧ ∀ i, i < 4096 → g' i = g i := by
  have hL : ∀ n, ∀ x, x ∈ votesN g n → n ≤ 4096 → okV x := by
    intro n x hx hn
    unfold votesN at hx
    rw [List.mem_filterMap] at hx
    obtain ⟨i, hi, he⟩ := hx
    have := List.mem_range.1 hi
    exact (okV_of h (by omega) he).1
  have hm : (votesN g 4096).length < 65536 := by have := votesN_len g 4096; omega
  obtain ⟨t, ht⟩ : ∃ t, t = txt (savB p (votesN g 4096)) := ⟨_, rfl⟩
  have hsv : savB p (votesN g 4096) = (votesN g 4096).foldl votB (hdB p (votesN g 4096).length) := rfl
  obtain ⟨rest0, hr0⟩ := fold_pre' (fun x hx => hL 4096 x hx (Nat.le_refl _)) (hdB p (votesN g 4096).length)
  obtain ⟨e1, e2, e3, e4⟩ := hd_read (rest := rest0) h.1 h.2.1 hm (t := t) (by rw [ht, hsv, hr0])
  have key : ∀ n, n ≤ 4096 → ∃ last, ldLoop t p (votesN g n).length = some (((votesN g n).foldl votB (hdB p (votesN g 4096).length)).length, last, cutG g n) ∧ last < (n : Int) := by
    intro n
    induction n with
    | zero =>
      intro _
      refine ⟨-1, ?_, by omega⟩
      have e0 : cutG g 0 = fun _ => none := by funext i; unfold cutG; rw [if_neg (by omega)]
      have ev : votesN g 0 = [] := rfl
      rw [e0, ev, List.length_nil, List.foldl_nil]
      simp only [ldLoop]
      rw [e4]
    | succ n ih =>
      intro hn
      obtain ⟨last, i1, i2⟩ := ih (by omega)
      rw [votesN_succ]
      cases hg : g n with
      | none =>
        refine ⟨last, ?_, by omega⟩
        have e0 : cutG g (n + 1) = cutG g n := by
          funext i
          unfold cutG
          by_cases a : i < n
          · rw [if_pos a, if_pos (by omega)]
          · by_cases b : i = n
            · subst b; rw [if_pos (by omega), if_neg a, hg]
            · rw [if_neg a, if_neg (by omega)]
        rw [e0]
        simpa using i1
      | some y =>
        obtain ⟨v1, v2, v3⟩ := okV_of h (by omega) hg
        obtain ⟨R, hR1, hR2⟩ := votesN_pre g (n + 1) (4096 - (n + 1))
        rw [show n + 1 + (4096 - (n + 1)) = 4096 by omega, votesN_succ g n, hg] at hR1
        obtain ⟨rest, hr⟩ := fold_pre' (L := R) (fun x hx => by obtain ⟨i, a, b, c⟩ := hR2 x hx; exact (okV_of h (by omega) c).1) (votB ((votesN g n).foldl votB (hdB p (votesN g 4096).length)) y)
        have htt : t = txt (votB ((votesN g n).foldl votB (hdB p (votesN g 4096).length)) y ++ rest) := by
          rw [ht, hsv, ← hr]
          have : (votesN g 4096).foldl votB (hdB p (votesN g 4096).length) = (votesN g n ++ (some y).toList ++ R).foldl votB (hdB p (votesN g 4096).length) := by rw [← hR1]
          rw [this, List.foldl_append, List.foldl_append]
          rfl
        obtain ⟨q1, q2, q3, q4, q5⟩ := votB_read v1 htt
        have hok : ldOk t p ((votesN g n).foldl votB (hdB p (votesN g 4096).length)).length last := ⟨q1, q2, q3, by rw [q4, v2]; exact i2, by rw [q4]; exact v3, by rw [q4]; exact accE_okV v1⟩
        refine ⟨(n : Int), ?_, by omega⟩
        have e5 : (votesN g n ++ (some y).toList).length = (votesN g n).length + 1 := by simp
        rw [e5, ld_step_yes i1 hok, q4, q5, v2, List.foldl_append]
        have e0 : setG (cutG g n) y = cutG g (n + 1) := by
          funext i
          unfold setG cutG
          by_cases a : (i : Int) = y.s
          · have : i = n := by omega
            subst this
            rw [if_pos a, if_pos (by omega), hg]
          · rw [if_neg a]
            by_cases b : i < n
            · rw [if_pos b, if_pos (by omega)]
            · rw [if_neg b, if_neg (by omega)]
        rw [e0]
        rfl
  obtain ⟨last, k1, _⟩ := key 4096 (Nat.le_refl _)
  refine ⟨cutG g 4096, ?_, fun i hi => by unfold cutG; rw [if_pos hi]⟩
  rw [← ht]
  have hn : (ldN t).toNat = (votesN g 4096).length := by rw [e3, Int.toNat_natCast]
  have := ldAcc_yes e1 (by rw [e2]; exact h.2.1) (by rw [e2, hn]; exact k1) (by
    unfold endL
    rw [if_neg]
    rw [ht, txt_size, hsv]
    omega)
  rw [this, e2]
/-- The loop, back: what it has read is what would be written. -/
theorem loop_back {t : ByteArray} {p : Int} (hp : p ≤ 1099511627776) (hh : ldHead t) : ∀ k a last g, ldLoop t p k = some (a, last, g) →
    (votesN g 4096).length = k ∧ (votesN g 4096).foldl votB (t.data.toList.take (rdA t (rdA t 0 8) 2)) = t.data.toList.take a ∧ a ≤ t.size ∧ 12 * k ≤ a ∧ last ≤ 4095 ∧ -1 ≤ last ∧
    ∀ i y, g i = some y → y.s = (i : Int) ∧ (i : Int) ≤ last ∧ 1 ≤ y.b ∧ y.b ≤ p ∧ y.v.size ≤ 1024 := by
  intro k
  induction k with
  | zero =>
    intro a last g h
    simp only [ldLoop, Option.some.injEq, Prod.mk.injEq] at h
    obtain ⟨rfl, rfl, rfl⟩ := h
    have hh1 : rdL t 0 ((8 : Nat) : Int) = [] := hh.1
    obtain ⟨c1, c2, c3⟩ := num_back hh1 (by omega)
    have c2' : rdA t 0 8 = 0 + 8 := c2
    have hh2 : rdL t (rdA t 0 8) ((2 : Nat) : Int) = [] := hh.2
    obtain ⟨d1, d2, d3⟩ := num_back hh2 (by omega)
    have d2' : rdA t (rdA t 0 8) 2 = rdA t 0 8 + 2 := d2
    have e : votesN (fun _ => none) 4096 = [] := by unfold votesN; rw [List.filterMap_eq_nil_iff]; intro _ _; rfl
    rw [e]
    exact ⟨rfl, rfl, by omega, by omega, by omega, by omega, fun i y h => by cases h⟩
  | succ k ih =>
    intro a last g h
    simp only [ldLoop] at h
    rw [Option.bind_eq_some_iff] at h
    obtain ⟨⟨a0, last0, g0⟩, h1, h2⟩ := h
    obtain ⟨i1, i2, i3, i4, i5, i6, i7⟩ := ih a0 last0 g0 h1
    simp only [ldStep] at h2
    split at h2
    · rename_i ho
      simp only [Option.some.injEq, Prod.mk.injEq] at h2
      obtain ⟨rfl, rfl, rfl⟩ := h2
      obtain ⟨o1, o2, o3, o4, o5, o6⟩ := ho
      obtain ⟨x0, x1, x2, x3, x4, x5⟩ := acc_ok o6
      have hx : ldX t a0 = ⟨rdN t a0 2, rdN t (rdA t a0 2) 8, rtS t (rdA t (rdA t a0 2) 8)⟩ := rfl
      have o1' : rdL t a0 ((2 : Nat) : Int) = [] := o1
      obtain ⟨c1, c2, c3⟩ := num_back o1' (by omega)
      have c2' : rdA t a0 2 = a0 + 2 := c2
      have o2' : rdL t (rdA t a0 2) ((8 : Nat) : Int) = [] := o2
      obtain ⟨d1, d2, d3⟩ := num_back o2' (by omega)
      have d2' : rdA t (rdA t a0 2) 8 = rdA t a0 2 + 8 := d2
      have e1 := text_back o3 (by rw [d2']; exact d3) (by rw [hx] at x4; exact x4)
      obtain ⟨e1, e2, e3⟩ := e1
      have hLA : ldA t a0 = rtA t (rdA t (rdA t a0 2) 8) := rfl
      have hend := votesN_end (g := g0) (x := ldX t a0) (s := (ldX t a0).s.toNat) (by omega) 4096 (by omega) (fun i q1 q2 => by
        cases hg : g0 i with
        | none => rfl
        | some y =>
          have := (i7 i y hg).2.1
          have o4' : last0 < (ldX t a0).s := o4
          omega)
      rw [hend]
      refine ⟨by rw [List.length_append, i1]; rfl, ?_, by rw [hLA]; exact e3, by rw [hLA]; omega, by omega, by omega, fun i y hy => ?_⟩
      · rw [List.foldl_append, i2]
        show votB (t.data.toList.take a0) (ldX t a0) = _
        unfold votB
        rw [hx]
        simp only
        have c1' : numB (t.data.toList.take a0) (rdN t a0 2) 2 = t.data.toList.take (a0 + 2) := c1
        have d1' : numB (t.data.toList.take (rdA t a0 2)) (rdN t (rdA t a0 2) 8) 8 = t.data.toList.take (rdA t a0 2 + 8) := d1
        rw [c1', ← c2', d1', ← d2', e1]
        rfl
      · unfold setG at hy
        by_cases q : (i : Int) = (ldX t a0).s
        · rw [if_pos q] at hy
          cases hy
          exact ⟨q.symm, by omega, x2, o5, x4⟩
        · rw [if_neg q] at hy
          obtain ⟨y1, y2, y3⟩ := i7 i y hy
          have o4' : last0 < (ldX t a0).s := o4
          exact ⟨y1, by omega, y3⟩
    · cases h2
/-- What is loaded is saved as it was. -/
theorem sav_ld {t : ByteArray} {p : Int} {g : Nat → Option VoteT} (h : ldAcc t = some (p, g)) : txt (savB p (votesN g 4096)) = t ∧ okG p g ∧ 12 * (votesN g 4096).length ≤ t.size := by
  unfold ldAcc at h
  split at h
  · rename_i hh
    split at h
    · rename_i a last g' hl
      split at h
      · rename_i he
        simp only [Option.some.injEq, Prod.mk.injEq] at h
        obtain ⟨rfl, rfl⟩ := h
        obtain ⟨b1, b2, b3, b4, b5, b6, b7⟩ := loop_back hh.2 hh.1 _ _ _ _ hl
        have hn := rdN_bd t (rdA t 0 8) 2
        have hp := rdN_bd t 0 8
        have hn' : 0 ≤ ldN t := hn.1
        have hp' : 0 ≤ ldP t := hp.1
        refine ⟨?_, ⟨hp', hh.2, fun i y hi hy => by obtain ⟨c1, c2, c3⟩ := b7 i y hy; exact ⟨c1, c3⟩⟩, by rw [b1]; omega⟩
        have hd : numB (numB [] (ldP t) 8) (votesN g' 4096).length 2 = t.data.toList.take (rdA t (rdA t 0 8) 2) := by
          rw [b1, show (((ldN t).toNat : Nat) : Int) = ldN t by omega]
          have hh1 : rdL t 0 ((8 : Nat) : Int) = [] := hh.1.1
          obtain ⟨c1, c2, c3⟩ := num_back hh1 (by omega)
          have c2' : rdA t 0 8 = 0 + 8 := c2
          have hh2 : rdL t (rdA t 0 8) ((2 : Nat) : Int) = [] := hh.1.2
          obtain ⟨d1, d2, d3⟩ := num_back hh2 (by omega)
          have d2' : rdA t (rdA t 0 8) 2 = rdA t 0 8 + 2 := d2
          have c1' : numB (t.data.toList.take 0) (ldP t) 8 = t.data.toList.take (0 + 8) := c1
          have d1' : numB (t.data.toList.take (rdA t 0 8)) (ldN t) 2 = t.data.toList.take (rdA t 0 8 + 2) := d1
          rw [List.take_zero, ← c2'] at c1'
          rw [c1', d1', d2']
        unfold savB
        rw [hd, b2]
        have ha : ¬ a < t.size := by
          intro q
          unfold endL at he
          rw [if_pos q] at he
          cases he
        rw [List.take_of_length_le (by show t.data.size ≤ _; have : t.data.size = t.size := rfl; omega), txt_toList]
      · cases h
    · cases h
  · cases h
end Go.Proofs.YtphcoenooinmfaaDoor
