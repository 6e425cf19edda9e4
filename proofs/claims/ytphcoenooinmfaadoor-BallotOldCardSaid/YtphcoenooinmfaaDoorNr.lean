/- Readers in a law's worlds; what was written is read back: plain laws. No further condition. -/
import Derived.Test.YtphcoenooinmfaaDoorRRdr
import Derived.Test.YtphcoenooinmfaaDoorNw
namespace Go.Proofs.YtphcoenooinmfaaDoor
open Go.RowKit
set_option linter.unusedVariables false
set_option linter.unusedSimpArgs false

/-- A reader of the law's own. -/
structure RdrN (W w : World) (T b : Nat) (s : ByteArray) (a : Nat) : Prop where
  h : Rdr w T b s a
  lo : W.heap.size ≤ b
  le : a ≤ s.size
theorem RdrN.mod {S : List Nat} {W w w' : World} {T b : Nat} {s : ByteArray} {a : Nat} (h : RdrN W w T b s a) (m : Mod S w w') (hb : b ∉ S) : RdrN W w' T b s a := ⟨h.h.mod m hb, h.lo, h.le⟩
theorem RdrN.mod0 {W w w' : World} {T b : Nat} {s : ByteArray} {a : Nat} (h : RdrN W w T b s a) (m : Mod [] w w') : RdrN W w' T b s a := ⟨h.h.mod0 m, h.lo, h.le⟩
theorem RdrN.lt {W w : World} {T b : Nat} {s : ByteArray} {a : Nat} (h : RdrN W w T b s a) : b < w.heap.size := Arr.lt h.h
theorem newReaderN {W w : World} (s : ByteArray) (hN : Nw W w) :
    Calls Tryd.prog 62 #[.string s] w fun r w' => ∃ b, r = .returned (.pointer (some ⟨b, 0, none⟩)) ∧ b = w.heap.size ∧ RdrN W w' 167 b s 0 ∧ Mod [] w w' ∧ Nw W w' :=
  (newReader_calls w s).mono fun r w' ⟨h1, h2, m⟩ => ⟨_, h1, rfl, ⟨h2, hN.le, Nat.zero_le _⟩, m, hN.step0 m⟩
theorem rdA_le {s : ByteArray} {a : Nat} (k : Int) (h : a ≤ s.size) : rdA s a k ≤ s.size := by
  by_cases hl : rdL s a k = []
  · obtain ⟨_, h1, h2, h3, _⟩ := rd_good hl
    omega
  · unfold rdA
    rw [if_neg hl]
    exact h
theorem rtA_le {s : ByteArray} {a : Nat} (h : a ≤ s.size) : rtA s a ≤ s.size := by
  by_cases hl : rtL s a = []
  · have e : rtA s a = a + 2 + (rdN s a 2).toNat := by unfold rtA; rw [if_pos hl]
    rcases rd2 s a with ⟨_, _, e2⟩ | ⟨hsh, e1, e2, hN⟩
    · rw [e2] at hl; cases hl
    · unfold rtL at hl
      rw [if_neg (by rw [e1]; simp)] at hl
      split at hl
      · cases hl
      · split at hl
        · cases hl
        · omega
  · unfold rtA
    rw [if_neg hl]
    exact h
/-- What a reading call leaves, in a law's worlds. -/
def RdN (W w : World) (T b : Nat) (s : ByteArray) (x : Value) (l : List Int) (a' : Nat) (r : Ending) (w' : World) : Prop :=
  ∃ v E, r = .returned (.tuple #[x, v]) ∧ Errs w' v l E ∧ (∀ x, x ∈ E → w.heap.size ≤ x) ∧ RdrN W w' T b s a' ∧ Mod [b] w w' ∧ Nw W w'
theorem RdN.of {W w w' : World} {T b : Nat} {s : ByteArray} {x : Value} {l : List Int} {a a' : Nat} {r : Ending} (hN : Nw W w) (hR : RdrN W w T b s a) (hl : a' ≤ s.size) (h : RdPost w T b s x l a' r w') : RdN W w T b s x l a' r w' := by
  obtain ⟨v, E, h1, h2, h3, h4, h5⟩ := h
  exact ⟨v, E, h1, h2, h3, ⟨h4, hR.lo, hl⟩, h5, hN.step h5 (fun x hx => by simp at hx; rw [hx]; exact hR.lo)⟩
theorem rnumN {W w : World} {b : Nat} {s : ByteArray} {a : Nat} (k : Int) (hN : Nw W w) (hR : RdrN W w 167 b s a) (hs : s.size ≤ 1000000) (k0 : -9223372036854775808 ≤ k) (k1 : k ≤ 9223372036854775807) :
    Calls Tryd.prog 83 #[.pointer (some ⟨b, 0, none⟩), .int .i64 k] w (RdN W w 167 b s (.int .i64 (rdN s a k)) (rdL s a k) (rdA s a k)) :=
  (rnum_calls w b s a k hR.h hR.le hs k0 k1).mono fun r w' h => RdN.of hN hR (rdA_le k hR.le) h
theorem rtextN {W w : World} {b : Nat} {s : ByteArray} {a : Nat} (hN : Nw W w) (hR : RdrN W w 167 b s a) (hs : s.size ≤ 1000000) :
    Calls Tryd.prog 85 #[.pointer (some ⟨b, 0, none⟩)] w (RdN W w 167 b s (.string (rtS s a)) (rtL s a) (rtA s a)) :=
  (rtext_calls w b s a hR.h hN.t hR.le hs).mono fun r w' h => RdN.of hN hR (rtA_le hR.le) h
theorem rendN {W w : World} {b : Nat} {s : ByteArray} {a : Nat} (hN : Nw W w) (hR : RdrN W w 167 b s a) (hs : s.size ≤ 1000000) :
    Calls Tryd.prog 86 #[.pointer (some ⟨b, 0, none⟩)] w fun r w' => ∃ v E, r = .returned v ∧ Errs w' v (endL s a) E ∧ (∀ x, x ∈ E → w.heap.size ≤ x) ∧ Mod [] w w' ∧ Nw W w' :=
  (rend_calls w b s a hR.h hR.le hs).mono fun r w' ⟨v, E, h1, h2, h3, m⟩ => ⟨v, E, h1, h2, h3, m, hN.step0 m⟩
/-- The same, of the document's reader. -/
def RRdN (W w : World) (T b : Nat) (s : ByteArray) (x : Value) (l : List Int) (a' : Nat) (r : Ending) (w' : World) : Prop :=
  ∃ A cap at_ E, r = .returned (.tuple #[x, .agg #[.slice A l.length cap, .int .i64 at_]]) ∧ RF w' (.agg #[.slice A l.length cap, .int .i64 at_]) l E ∧ (∀ x, x ∈ E → w.heap.size ≤ x) ∧ RdrN W w' T b s a' ∧ Mod [b] w w' ∧ Nw W w'
theorem RF.shape {w : World} {v : Value} {l : List Int} {E : List Nat} (h : RF w v l E) : ∃ A cap at_, v = .agg #[.slice A l.length cap, .int .i64 at_] := by
  obtain ⟨sv, a, rfl, ho, _⟩ := h
  obtain ⟨A, cap, rfl, _⟩ := (own_slA ho).ex
  exact ⟨A, cap, a, rfl⟩
theorem RRdN.of {W w w' : World} {T b : Nat} {s : ByteArray} {x : Value} {l : List Int} {a a' : Nat} {r : Ending} (hN : Nw W w) (hR : RdrN W w T b s a) (hl : a' ≤ s.size) (h : RRdPost w T b s x l a' r w') : RRdN W w T b s x l a' r w' := by
  obtain ⟨v, E, h1, h2, h3, h4, h5⟩ := h
  obtain ⟨A, cap, at_, rfl⟩ := h2.shape
  exact ⟨A, cap, at_, E, h1, h2, h3, ⟨h4, hR.lo, hl⟩, h5, hN.step h5 (fun x hx => by simp at hx; rw [hx]; exact hR.lo)⟩
theorem rrnumN {W w : World} {b : Nat} {s : ByteArray} {a : Nat} (k : Int) (hN : Nw W w) (hR : RdrN W w 132 b s a) (hs : s.size ≤ 1000000) (k0 : -9223372036854775808 ≤ k) (k1 : k ≤ 9223372036854775807) :
    Calls Tryd.prog 66 #[.pointer (some ⟨b, 0, none⟩), .int .i64 k] w (RRdN W w 132 b s (.int .i64 (rdN s a k)) (rdL s a k) (rdA s a k)) :=
  (rrnum_calls w b s a k hR.h hR.le hs k0 k1).mono fun r w' h => RRdN.of hN hR (rdA_le k hR.le) h
theorem rrtextN {W w : World} {b : Nat} {s : ByteArray} {a : Nat} (hN : Nw W w) (hR : RdrN W w 132 b s a) (hs : s.size ≤ 1000000) :
    Calls Tryd.prog 68 #[.pointer (some ⟨b, 0, none⟩)] w (RRdN W w 132 b s (.string (rtS s a)) (rtL s a) (rtA s a)) :=
  (rrtext_calls w b s a hR.h hR.le hs).mono fun r w' h => RRdN.of hN hR (rtA_le hR.le) h
theorem rrendN {W w : World} {b : Nat} {s : ByteArray} {a : Nat} (hN : Nw W w) (hR : RdrN W w 132 b s a) (hs : s.size ≤ 1000000) :
    Calls Tryd.prog 69 #[.pointer (some ⟨b, 0, none⟩)] w fun r w' => ∃ v E, r = .returned v ∧ RF w' v (endL s a) E ∧ (∀ x, x ∈ E → w.heap.size ≤ x) ∧ Mod [] w w' ∧ Nw W w' :=
  (rrend_calls w b s a hR.h hR.le hs).mono fun r w' ⟨v, E, h1, h2, h3, m⟩ => ⟨v, E, h1, h2, h3, m, hN.step0 m⟩
theorem rdL_len (s : ByteArray) (a : Nat) (k : Int) : (rdL s a k).length ≤ 1 := by
  unfold rdL
  split
  · simp
  · split
    · simp
    · split <;> simp
theorem rtL_len (s : ByteArray) (a : Nat) : (rtL s a).length ≤ 1000 := by
  unfold rtL
  have := rdL_len s a 2
  split
  · rw [List.length_append]; omega
  · split
    · simp
    · split <;> simp
theorem endL_len (s : ByteArray) (a : Nat) : (endL s a).length ≤ 1000 := by unfold endL; split <;> simp

/-- A list of bytes, as a text. -/
def txt (l : List UInt8) : ByteArray := ⟨l.toArray⟩
theorem txt_size (l : List UInt8) : (txt l).size = l.length := by
  show l.toArray.size = l.length
  simp
theorem txt_toList (s : ByteArray) : txt s.data.toList = s := by
  apply ByteArray.ext
  simp [txt]
theorem byS_txt (l : List UInt8) (i : Nat) : byS (txt l) i = (l.getD i 0).toNat := by
  unfold byS txt
  simp [List.getD_eq_getElem?_getD]
theorem txt_append (a b : List UInt8) : txt (a ++ b) = txt a ++ txt b := by
  apply ByteArray.ext
  simp [txt]
theorem txt_extract (l : List UInt8) (a b : Nat) : (txt l).extract a b = txt ((l.take b).drop a) := by
  apply ByteArray.ext
  rw [ByteArray.data_extract]
  apply Array.toList_inj.1
  simp [txt, List.drop_take]
theorem leN_pre (pre mid rest : List UInt8) (n k : Nat) (hm : mid = leB n k) (hn : n < 256 ^ k) : leN (byS (txt (pre ++ mid ++ rest))) pre.length k = n := by
  rw [leN_leB n k pre.length, Nat.mod_eq_of_lt hn]
  intro i hi
  rw [byS_txt]
  subst hm
  have h1 : pre.length + i < (pre ++ leB n k).length := by simp [leB_length]; omega
  rw [List.getD_eq_getElem?_getD, List.getElem?_append_left h1, List.getElem?_append_right (by omega), show pre.length + i - pre.length = i by omega]
  unfold leB
  simp [List.getElem?_range hi]
/-- A number that was written is read. -/
theorem rd_at (pre rest : List UInt8) (n k : Nat) (hw : wideB k = true) (hn : n < 256 ^ k) (h63 : n < 9223372036854775808) :
    rdL (txt (pre ++ leB n k ++ rest)) pre.length k = [] ∧ rdN (txt (pre ++ leB n k ++ rest)) pre.length k = n ∧ rdA (txt (pre ++ leB n k ++ rest)) pre.length k = pre.length + k := by
  have hl := leN_pre pre (leB n k) rest n k rfl hn
  have hz : (txt (pre ++ leB n k ++ rest)).size = pre.length + k + rest.length := by rw [txt_size]; simp [leB_length]; omega
  have e1 : rdL (txt (pre ++ leB n k ++ rest)) pre.length k = [] := by
    unfold rdL
    rw [if_neg (by simp [hw]), if_neg (by rw [hz]; omega), Int.toNat_natCast, hl, if_neg (by omega)]
  refine ⟨e1, ?_, ?_⟩
  · unfold rdN
    rw [if_neg (by simp [hw]), if_neg (by rw [hz]; omega), Int.toNat_natCast, hl, if_neg (by omega)]
  · unfold rdA
    rw [if_pos e1, Int.toNat_natCast]
/-- A text that was written is read. -/
theorem rt_at (pre rest : List UInt8) (s : ByteArray) (hs : s.size ≤ 1024) :
    rtL (txt (pre ++ leB s.size 2 ++ s.data.toList ++ rest)) pre.length = [] ∧ rtS (txt (pre ++ leB s.size 2 ++ s.data.toList ++ rest)) pre.length = s ∧ rtA (txt (pre ++ leB s.size 2 ++ s.data.toList ++ rest)) pre.length = pre.length + 2 + s.size := by
  have h := rd_at pre (s.data.toList ++ rest) s.size 2 (by decide) (by omega) (by omega)
  rw [← List.append_assoc] at h
  obtain ⟨e1, e2, e3⟩ := h
  have hsl : s.data.toList.length = s.size := rfl
  have hz : (txt (pre ++ leB s.size 2 ++ s.data.toList ++ rest)).size = pre.length + 2 + s.size + rest.length := by
    rw [txt_size, List.length_append, List.length_append, List.length_append, leB_length, hsl]
  have e4 : rtL (txt (pre ++ leB s.size 2 ++ s.data.toList ++ rest)) pre.length = [] := by
    unfold rtL
    have e1' : rdL (txt (pre ++ leB s.size 2 ++ s.data.toList ++ rest)) pre.length 2 = [] := e1
    have e2' : rdN (txt (pre ++ leB s.size 2 ++ s.data.toList ++ rest)) pre.length 2 = (s.size : Int) := e2
    rw [if_neg (by rw [e1']; simp), e2', hz, if_neg (by omega), if_neg (by omega)]
  have e2' : rdN (txt (pre ++ leB s.size 2 ++ s.data.toList ++ rest)) pre.length 2 = (s.size : Int) := e2
  refine ⟨e4, ?_, ?_⟩
  · unfold rtS
    rw [if_pos e4, e2', Int.toNat_natCast, txt_extract]
    have h1 : ((pre ++ leB s.size 2 ++ s.data.toList ++ rest).take (pre.length + 2 + s.size)).drop (pre.length + 2) = s.data.toList := by
      rw [List.take_append_of_le_length (by rw [List.length_append, List.length_append, leB_length, hsl]; omega)]
      rw [List.take_of_length_le (by rw [List.length_append, List.length_append, leB_length, hsl]; omega)]
      rw [List.drop_append_of_le_length (by rw [List.length_append, leB_length]; omega)]
      rw [List.drop_of_length_le (by rw [List.length_append, leB_length]; omega)]
      simp
    rw [h1, txt_toList]
  · unfold rtA
    rw [if_pos e4, e2', Int.toNat_natCast]
end Go.Proofs.YtphcoenooinmfaaDoor
