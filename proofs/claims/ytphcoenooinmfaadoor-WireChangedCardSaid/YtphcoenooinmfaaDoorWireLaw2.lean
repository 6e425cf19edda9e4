/- More laws of messages; messages in memory. No condition. -/
import Derived.Test.YtphcoenooinmfaaDoorWireLaw
namespace Go.Proofs.YtphcoenooinmfaaDoor
open Go.RowKit
set_option linter.unusedVariables false
set_option linter.unusedSimpArgs false

def msgF (x : Nat → Int) (d : ByteArray) (i : Nat) : Value := if i = 7 then .string d else .int .i64 (x i)
theorem msg_new (w : World) (x : Nat → Int) (d : ByteArray) : Arr (w.alloc (.cells #[.int .i64 (x 0), .int .i64 (x 1), .int .i64 (x 2), .int .i64 (x 3), .int .i64 (x 4), .int .i64 (x 5), .int .i64 (x 6), .string d] 62)) w.heap.size 62 8 (msgF x d) :=
  Arr.new' w _ _ 8 _ rfl (fun i hi => by
    match i, hi with
    | 0, _ | 1, _ | 2, _ | 3, _ | 4, _ | 5, _ | 6, _ | 7, _ => rfl)
theorem rtL_len2 (s : ByteArray) (a : Nat) : (rtL s a).length ≤ 2 := by
  unfold rtL
  have := rdL_len s a 2
  split
  · rw [List.length_append]; omega
  · split
    · simp
    · split <;> simp
theorem endL_len2 (s : ByteArray) (a : Nat) : (endL s a).length ≤ 1 := by unfold endL; split <;> simp
theorem decTail_len (t : ByteArray) : (decTail t).length ≤ 3 := by
  have h1 := rtL_len2 t (decA t 7)
  have h2 := endL_len2 t (rtA t (decA t 7))
  unfold decTail
  split
  · simp only [List.length_cons]; omega
  · split
    · simp only [List.length_cons]; omega
    · split <;> simp
theorem decFrom_len (t : ByteArray) : ∀ n j, (decFrom t n j).length ≤ 3 := by
  intro n
  induction n with
  | zero => intro j; exact decTail_len t
  | succ n ih =>
    intro j
    have h1 : (decE t j).length ≤ 1 := rdL_len _ _ _
    simp only [decFrom]
    split
    · simp only [List.length_cons]; omega
    · exact ih _
theorem decL_len (s : ByteArray) : (decL s).length ≤ 1000 := by
  unfold decL
  split
  · simp
  · have := decFrom_len (bodyB s) 7 0; omega
theorem rdN_bd (s : ByteArray) (a : Nat) (k : Int) : 0 ≤ rdN s a k ∧ rdN s a k ≤ 9223372036854775807 := by
  unfold rdN
  split
  · omega
  · split
    · omega
    · split
      · omega
      · rename_i h; omega
theorem rtS_bd (s : ByteArray) (a : Nat) : (rtS s a).size ≤ 1024 := by
  unfold rtS
  split
  · rename_i h
    rw [ByteArray.size_extract]
    unfold rtL at h
    split at h
    · rename_i h9
      simp at h
      exact absurd h h9
    · split at h
      · cases h
      · omega
  · simp [ByteArray.size]
theorem decR_bd (s : ByteArray) : (decR s).Bd := by
  unfold decR
  split
  · refine ⟨fun j hj => ?_, ?_⟩
    · have := rdN_bd (bodyB s) (decA (bodyB s) j) (wid j)
      show _ ≤ decN _ _ ∧ decN _ _ ≤ _
      unfold decN
      omega
    · have := rtS_bd (bodyB s) (decA (bodyB s) 7)
      show (rtS _ _).size ≤ _
      omega
  · exact ⟨fun j hj => by simp [Msg.zero], by simp [Msg.zero, ByteArray.size]⟩
theorem decR_none : decR ⟨#[]⟩ = Msg.zero := by
  unfold decR
  rw [dec_none, if_neg (by simp)]
end Go.Proofs.YtphcoenooinmfaaDoor
