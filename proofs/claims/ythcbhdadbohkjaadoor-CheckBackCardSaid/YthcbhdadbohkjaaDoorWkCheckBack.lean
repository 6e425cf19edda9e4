/- The walk of the law CheckBack: what is sealed is opened; with a byte less, or one more, of the sum's end, it is what the document says; the premise: the table of steps holds what its initialiser lays. -/
import Derived.Test.YthcbhdadbohkjaaDoorProg
import Derived.Test.YthcbhdadbohkjaaDoorRow
import Derived.Test.YthcbhdadbohkjaaDoorSeal
namespace Go.Proofs.YthcbhdadbohkjaaDoor
open Go.RowKit
set_option linter.unusedVariables false
set_option linter.unusedSimpArgs false
attribute [local go_sem ↓] Go.wp_at_zero Go.wp_at_succ
/-- One byte that lies at g, as a text. -/
theorem conv1 (w : World) (g : Nat) (x : Int) (h0 : 0 ≤ x) (h1 : x ≤ 255) (h : w.cell? ⟨g, 0, none⟩ = some (.int .u8 x)) :
    (convert 29 9 (.slice (some ⟨g, 0, none⟩) 1 1)).run Tryd.prog w = .ok (.string ⟨#[UInt8.ofNat x.toNat]⟩) w := by
  refine run_convert_bytes_back w 29 9 5 ⟨g, 0, none⟩ 1 [UInt8.ofNat x.toNat] Tryd.underlying29 Tryd.underlying5 Tryd.underlying9 ?_
  intro j hj
  obtain rfl : j = 0 := by simpa using hj
  rw [show (⟨g, 0, none⟩ : Addr).add 0 = ⟨g, 0, none⟩ by simp [Addr.add], h]
  simp only [List.getElem_cons_zero]
  rw [byte_toNat (by omega)]
  congr 2
  omega
set_option maxRecDepth 100000 in
set_option maxHeartbeats 2000000 in
theorem checkBack_walk (W : World) (t0 : Steps W) (a0 : ByteArray) (w0 : a0.size ≤ 140737488351232) (a1 : Int) (w1 : (Lit.int .u8 a1).wf = true) :
    Calls Tryd.prog 5 #[.string a0, .int .u8 a1] W fun e w' => e = .returned (.bool true) ∧ Below W.heap.size W w' := by
  by_cases hbig : 2048 < a0.size
  · have hi : (2048 : Int) < (a0.size : Int) := by omega
    go_enter Tryd.func5, Tryd.ntmps5
    go_wp2
    go_ret
    exact ⟨rfl, Below.refl _ _⟩
  have hi : ¬ (2048 : Int) < (a0.size : Int) := by omega
  have b1 := bd_u8 w1
  have z1 := seal_size a0
  have o1 := ok_sealed a0
  have bs1 := body_sealed a0
  have zz : ((sealB a0).size : Int) = (a0.size : Int) + 4 := by omega
  obtain ⟨u, hu⟩ : ∃ u : ByteArray, u = ⟨#[UInt8.ofNat a1.toNat]⟩ := ⟨_, rfl⟩
  have hus : u.size = 1 := by rw [hu]; rfl
  have hsu : (sealB a0 ++ u).size ≤ 100000 := by rw [ByteArray.size_append]; omega
  have cv := fun (w : World) => conv1 (w.alloc (.cells #[.int .u8 a1] 5)) w.heap.size a1 b1.1 b1.2 (by simp)
  rw [← hu] at cv
  clear w1 b1 hu
  go_enter Tryd.func5, Tryd.ntmps5
  go_wp2_with fail
  refine (seal_calls _ a0 (by omega) t0).mono ?_
  rintro e w1 ⟨rfl, m1⟩
  have t1 := t0.mod m1 (by simp)
  go_wp2_with fail
  refine (open_calls _ (sealB a0) (by omega) t1).mono ?_
  rintro e w2 ⟨rfl, m2⟩
  have t2 := t1.mod m2 (by simp)
  rw [o1, bs1]
  have cv2 := cv w2
  go_wp2_with fail
  have n2 : Mod [] w2 (w2.alloc (.cells #[.int .u8 a1] 5)) := (Mod.refl _ _).alloc _
  refine (open_calls _ (sealB a0 ++ u) hsu (t2.mod n2 (by simp))).mono ?_
  rintro e w3 ⟨rfl, m3⟩
  have cv3 := cv w3
  go_wp2_with fail
  have n3 : Mod [] w3 (w3.alloc (.cells #[.int .u8 a1] 5)) := (Mod.refl _ _).alloc _
  refine (ropen_calls _ (sealB a0 ++ u) hsu).mono ?_
  rintro e w4 ⟨rfl, m4⟩
  go_wp2_with fail
  go_ret
  exact ⟨rfl, (((((m1.trans m2).trans n2).trans m3).trans n3).trans m4).below (Nat.le_refl _) (by simp)⟩
end Go.Proofs.YthcbhdadbohkjaaDoor
