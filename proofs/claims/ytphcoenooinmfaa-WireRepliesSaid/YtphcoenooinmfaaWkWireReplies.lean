/- The walk of the law WireReplies: a reply goes back, with the same numbers; no condition. -/
import Derived.Test.YtphcoenooinmfaaProg
import Derived.Test.YtphcoenooinmfaaRow
namespace Go.Proofs.Ytphcoenooinmfaa
open Go.RowKit
set_option linter.unusedVariables false
set_option linter.unusedSimpArgs false
attribute [local go_sem ↓] Go.wp_at_zero Go.wp_at_succ

/-- A message's cells. -/
def msgC (k f t e s o l : Int) (d : ByteArray) : Array Value := #[.int .i64 k, .int .i64 f, .int .i64 t, .int .i64 e, .int .i64 s, .int .i64 o, .int .i64 l, .string d]
theorem msg_inv {W : World} {s : Array Value} (c : CellsOk W [.int .i64, .int .i64, .int .i64, .int .i64, .int .i64, .int .i64, .int .i64, .str] s.toList) :
    ∃ k f t e q o l d, s = msgC k f t e q o l d := by
  obtain ⟨hl, hc⟩ := c
  obtain ⟨xs⟩ := s
  simp only at hl hc
  match xs, hl with
  | [x0, x1, x2, x3, x4, x5, x6, x7], _ =>
    obtain ⟨k, rfl, _⟩ := (hc 0 _ _ rfl rfl).int_inv
    obtain ⟨f, rfl, _⟩ := (hc 1 _ _ rfl rfl).int_inv
    obtain ⟨t, rfl, _⟩ := (hc 2 _ _ rfl rfl).int_inv
    obtain ⟨e, rfl, _⟩ := (hc 3 _ _ rfl rfl).int_inv
    obtain ⟨q, rfl, _⟩ := (hc 4 _ _ rfl rfl).int_inv
    obtain ⟨o, rfl, _⟩ := (hc 5 _ _ rfl rfl).int_inv
    obtain ⟨l, rfl, _⟩ := (hc 6 _ _ rfl rfl).int_inv
    obtain ⟨d, rfl, _⟩ := (hc 7 _ _ rfl rfl).str_inv
    exact ⟨k, f, t, e, q, o, l, d, rfl⟩
theorem results_cell1 {fn : Func} {p : Tmp} {ty : TypeId} (h : fn.results = #[.cell p ty]) (tmps : Array Value) (P : Program) (w : World) :
    (results fn tmps).run P w = ((asAddr (tmps.getD p undef)).run P w).andThen fun a w₁ => (loadVar ty a).run P w₁ := by
  simp only [results, h]
  simp [Sem.run_bind, Result.andThen]
set_option maxRecDepth 100000 in
set_option maxHeartbeats 1000000 in
theorem reply_calls (w : World) (k f t e s o l : Int) (d : ByteArray) (b : Int) :
    Calls Try.prog 4 #[.agg (msgC k f t e s o l d), .int .i64 b] w fun en w' => en = .returned (.agg (msgC b t f e s 0 0 ⟨#[]⟩)) ∧ Mod [] w w' := by
  unfold msgC
  go_enter Try.func4, Try.ntmps4
  go_wp2
  (try simp only [Exit.inBlock, Exit.then])
  refine bodyPost_ret (v := .agg #[.int .i64 b, .int .i64 t, .int .i64 f, .int .i64 e, .int .i64 s, .int .i64 0, .int .i64 0, .string ⟨#[]⟩]) ?_ rfl ?_
  · rw [results_cell1 rfl]
    go_simp
  · exact ⟨rfl, ((Mod.refl _ _).alloc _).alloc _⟩
set_option maxRecDepth 100000 in
set_option maxHeartbeats 1000000 in
theorem rreply_calls (w : World) (k f t e s o l : Int) (d : ByteArray) (b : Int) :
    Calls Try.prog 5 #[.agg (msgC k f t e s o l d), .int .i64 b] w fun en w' => en = .returned (.agg (msgC b t f e s 0 0 ⟨#[]⟩)) ∧ Mod [] w w' := by
  unfold msgC
  go_enter Try.func5, Try.ntmps5
  go_wp2
  (try simp only [Exit.inBlock, Exit.then])
  refine bodyPost_ret (v := .agg #[.int .i64 b, .int .i64 t, .int .i64 f, .int .i64 e, .int .i64 s, .int .i64 0, .int .i64 0, .string ⟨#[]⟩]) ?_ rfl ?_
  · rw [results_cell1 rfl]
    go_simp
  · exact ⟨rfl, ((Mod.refl _ _).alloc _).alloc _⟩

theorem within_no (w : World) (g : Nat) (h : w.cell? ⟨g, 0, none⟩ = some (.int .i64 (-1))) :
    Calls Try.prog 7 #[.int .i64 255, .slice (some ⟨g, 0, none⟩) 1 1] w fun e w' => e = .returned (.bool false) ∧ w = w' := by
  go_enter Try.func7, Try.ntmps7
  go_wp2
  go_loop [9] (fun i => i = .int .i64 0) (fun _ => 0)
  case atStart => rfl
  case round =>
    subst hrel
    go_wp2
    go_ret
    exact ⟨rfl, rfl⟩
set_option maxRecDepth 100000 in
set_option maxHeartbeats 1000000 in
theorem check_no (w : World) :
    Calls Try.prog 6 #[.agg (msgC (-1) 0 0 0 0 0 0 ⟨#[]⟩)] w fun e w' => e = .returned (.int .i64 1) ∧ Mod [] w w' := by
  unfold msgC
  go_enter Try.func6, Try.ntmps6
  go_wp2_with (go_at_call 7; refine (within_no _ _ (by simp)).mono ?_; rintro e w' ⟨rfl, rfl⟩)
  go_ret
  exact ⟨rfl, ((Mod.refl _ _).alloc _).alloc _⟩
/-- A message lies at b. -/
structure MsgAt (w : World) (b : Nat) (k f t e s o l : Int) (d : ByteArray) : Prop where
  c0 : w.cell? ⟨b, 0, none⟩ = some (.int .i64 k)
  c1 : w.cell? ⟨b, 1, none⟩ = some (.int .i64 f)
  c2 : w.cell? ⟨b, 2, none⟩ = some (.int .i64 t)
  c3 : w.cell? ⟨b, 3, none⟩ = some (.int .i64 e)
  c4 : w.cell? ⟨b, 4, none⟩ = some (.int .i64 s)
  c5 : w.cell? ⟨b, 5, none⟩ = some (.int .i64 o)
  c6 : w.cell? ⟨b, 6, none⟩ = some (.int .i64 l)
  c7 : w.cell? ⟨b, 7, none⟩ = some (.string d)
theorem MsgAt.mod {w w' : World} {b : Nat} {k f t e s o l : Int} {d : ByteArray} {S : List Nat} (h : MsgAt w b k f t e s o l d) (m : Mod S w w') (hb : b ∉ S) : MsgAt w' b k f t e s o l d :=
  ⟨m.cell' h.c0 hb, m.cell' h.c1 hb, m.cell' h.c2 hb, m.cell' h.c3 hb, m.cell' h.c4 hb, m.cell' h.c5 hb, m.cell' h.c6 hb, m.cell' h.c7 hb⟩
theorem MsgAt.new (w : World) (k f t e s o l : Int) (d : ByteArray) (T : TypeId) : MsgAt (w.alloc (.cells (msgC k f t e s o l d) T)) w.heap.size k f t e s o l d := by
  constructor <;> simp [msgC]
set_option maxRecDepth 100000 in
set_option maxHeartbeats 4000000 in
theorem wireReplies_walk (W : World) (s0 : Array Value) (c0 : CellsOk W [.int .i64, .int .i64, .int .i64, .int .i64, .int .i64, .int .i64, .int .i64, .str] s0.toList)
    (a1 : Int) (w1 : (Lit.int .i64 a1).wf = true)
    (a2 : Int) (w2 : (Lit.int .i64 a2).wf = true) :
    Calls Try.prog 3 #[.agg s0, .int .i64 a1, .int .i64 a2] W fun e w' => e = .returned (.bool true) ∧ Below W.heap.size W w' := by
  obtain ⟨k, f, t, e, q, o, l, d, rfl⟩ := msg_inv c0
  clear c0 w1 w2
  have A0 := MsgAt.new W k f t e q o l d 23
  have M0 : Mod [] W (W.alloc (.cells (msgC k f t e q o l d) 23)) := (Mod.refl _ _).alloc _
  by_cases hbig : 4096 < d.size
  · have hi : (4096 : Int) < (d.size : Int) := by omega
    unfold msgC at *
    go_enter Try.func3, Try.ntmps3
    go_wp2
    go_ret
    exact ⟨rfl, M0.below (Nat.le_refl _) (by simp)⟩
  have hi : ¬ (4096 : Int) < (d.size : Int) := by omega
  have R1 := Lib.hid (reply_calls (W.alloc (.cells (msgC k f t e q o l d) 23)) k f t e q o l d a1)
  have R2 := fun w => Lib.hid (reply_calls w a1 t f e q 0 0 ⟨#[]⟩ a2)
  have R3 := fun w => Lib.hid (rreply_calls w k f t e q o l d a1)
  have R4 := fun w => Lib.hid (check_no w)
  have hB0 : W.heap.size < (W.alloc (.cells (msgC k f t e q o l d) 23)).heap.size := by simp
  have N1 := fun w : World => MsgAt.new w a1 t f e q 0 0 ⟨#[]⟩ 23
  have N2 := fun w : World => MsgAt.new w a2 f t e q 0 0 ⟨#[]⟩ 23
  unfold msgC at *
  go_enter Try.func3, Try.ntmps3
  go_wp2_with fail
  refine R1.out.mono ?_
  rintro en w1 ⟨rfl, m1⟩
  have A1 := A0.mod m1 (by simp)
  have M1 := M0.trans m1
  clear A0 M0 m1 R1
  have B1 := N1 w1
  have A2 := A1.mod ((Mod.refl [] w1).alloc (.cells #[.int .i64 a1, .int .i64 t, .int .i64 f, .int .i64 e, .int .i64 q, .int .i64 0, .int .i64 0, .string ⟨#[]⟩] 23)) (by simp)
  go_wp2_with fail
  refine (R2 _).out.mono ?_
  rintro en w2 ⟨rfl, m2⟩
  have M2 := (M1.alloc (.cells #[.int .i64 a1, .int .i64 t, .int .i64 f, .int .i64 e, .int .i64 q, .int .i64 0, .int .i64 0, .string ⟨#[]⟩] 23)).trans m2
  have m4 := ((Mod.refl [] w2).alloc (.cells #[.int .i64 a2, .int .i64 f, .int .i64 t, .int .i64 e, .int .i64 q, .int .i64 0, .int .i64 0, .string ⟨#[]⟩] 23)).drew
  have A4 := (A2.mod m2 (by simp)).mod m4 (by simp)
  have B4 := (B1.mod m2 (by simp)).mod m4 (by simp)
  have C4 := (N2 w2).mod ((Mod.refl [] _).drew) (by simp)
  have M4 := M2.trans m4
  have Q3 := R3 (w2.alloc (.cells #[.int .i64 a2, .int .i64 f, .int .i64 t, .int .i64 e, .int .i64 q, .int .i64 0, .int .i64 0, .string ⟨#[]⟩] 23)).drew
  clear R2 R3 A1 A2 B1 N1 N2 m2 m4 M1 M2 hB0
  go_wp2_with fail
  go_region_held3 (fun w' => w'.cell? ⟨W.heap.size, 0, none⟩ = some (.int .i64 k) ∧ w'.cell? ⟨W.heap.size, 1, none⟩ = some (.int .i64 f) ∧ w'.cell? ⟨W.heap.size, 2, none⟩ = some (.int .i64 t) ∧ w'.cell? ⟨W.heap.size, 3, none⟩ = some (.int .i64 e) ∧ w'.cell? ⟨W.heap.size, 4, none⟩ = some (.int .i64 q) ∧ w'.cell? ⟨W.heap.size, 5, none⟩ = some (.int .i64 o) ∧ w'.cell? ⟨W.heap.size, 6, none⟩ = some (.int .i64 l) ∧ w'.cell? ⟨W.heap.size, 7, none⟩ = some (.string d) ∧ w'.cell? ⟨w1.heap.size, 0, none⟩ = some (.int .i64 a1) ∧ w'.cell? ⟨w1.heap.size, 1, none⟩ = some (.int .i64 t) ∧ w'.cell? ⟨w1.heap.size, 2, none⟩ = some (.int .i64 f) ∧ w'.cell? ⟨w1.heap.size, 3, none⟩ = some (.int .i64 e) ∧ w'.cell? ⟨w1.heap.size, 4, none⟩ = some (.int .i64 q) ∧ w'.cell? ⟨w1.heap.size, 5, none⟩ = some (.int .i64 0) ∧ w'.cell? ⟨w1.heap.size, 6, none⟩ = some (.int .i64 0) ∧ w'.cell? ⟨w1.heap.size, 7, none⟩ = some (.string ⟨#[]⟩) ∧ w'.cell? ⟨w2.heap.size, 0, none⟩ = some (.int .i64 a2) ∧ w'.cell? ⟨w2.heap.size, 1, none⟩ = some (.int .i64 f) ∧ w'.cell? ⟨w2.heap.size, 2, none⟩ = some (.int .i64 t) ∧ w'.cell? ⟨w2.heap.size, 3, none⟩ = some (.int .i64 e) ∧ w'.cell? ⟨w2.heap.size, 4, none⟩ = some (.int .i64 q) ∧ w'.cell? ⟨w2.heap.size, 5, none⟩ = some (.int .i64 0) ∧ w'.cell? ⟨w2.heap.size, 6, none⟩ = some (.int .i64 0) ∧ w'.cell? ⟨w2.heap.size, 7, none⟩ = some (.string ⟨#[]⟩))
    (first | exact ⟨A6.c0, A6.c1, A6.c2, A6.c3, A6.c4, A6.c5, A6.c6, A6.c7, B6.c0, B6.c1, B6.c2, B6.c3, B6.c4, B6.c5, B6.c6, B6.c7, C6.c0, C6.c1, C6.c2, C6.c3, C6.c4, C6.c5, C6.c6, C6.c7⟩ | exact ⟨A5.c0, A5.c1, A5.c2, A5.c3, A5.c4, A5.c5, A5.c6, A5.c7, B5.c0, B5.c1, B5.c2, B5.c3, B5.c4, B5.c5, B5.c6, B5.c7, C5.c0, C5.c1, C5.c2, C5.c3, C5.c4, C5.c5, C5.c6, C5.c7⟩ | exact ⟨A4.c0, A4.c1, A4.c2, A4.c3, A4.c4, A4.c5, A4.c6, A4.c7, B4.c0, B4.c1, B4.c2, B4.c3, B4.c4, B4.c5, B4.c6, B4.c7, C4.c0, C4.c1, C4.c2, C4.c3, C4.c4, C4.c5, C4.c6, C4.c7⟩ | go_keep)
    (first
      | (go_at_call 5; refine Q3.out.mono ?_; rintro en w5 ⟨rfl, m5⟩; have A5 := A4.mod m5 (by simp); have B5 := B4.mod m5 (by simp); have C5 := C4.mod m5 (by simp))
      | (go_at_call 6; refine (R4 _).out.mono ?_; rintro en w6 ⟨rfl, m6⟩; have A6 := A5.mod m6 (by simp); have B6 := B5.mod m6 (by simp); have C6 := C5.mod m6 (by simp)))
  go_wp2
  go_ret
  exact ⟨rfl, ((M4.trans m5).trans m6).below (Nat.le_refl _) (by simp)⟩
end Go.Proofs.Ytphcoenooinmfaa
