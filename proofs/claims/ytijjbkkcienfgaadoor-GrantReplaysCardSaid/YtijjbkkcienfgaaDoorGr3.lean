/- The library's slices.Clone at holds. No condition beyond what stands in it. -/
import Derived.Test.YtijjbkkcienfgaaDoorGr2
namespace Go.Proofs.YtijjbkkcienfgaaDoor
open Go.RowKit
set_option linter.unusedVariables false
set_option linter.unusedSimpArgs false
attribute [local go_sem ↓] Go.wp_at_zero Go.wp_at_succ

theorem own_empty (w : World) (base : Nat) (e : TypeId) (sz : Nat) (h : base ≤ w.heap.size) : (w.alloc (.cells #[] e)).ownsRow base e sz (.slice (some ⟨w.heap.size, 0, none⟩) 0 0) 0 [] :=
  ⟨by simp, .inr ⟨w.heap.size, 0, #[], rfl, h, heap_alloc_new w _, Nat.le_refl _, by decide, by simp, by simp⟩⟩
theorem hcells_one (L : List HoldT) : ∀ u ∈ hcells L, u.oneCell' = true := by
  intro u hu
  simp only [hcells, List.mem_flatMap] at hu
  obtain ⟨x, _, hu⟩ := hu
  simp only [hcell, List.mem_cons, List.not_mem_nil, or_false] at hu
  rcases hu with rfl | rfl | rfl | rfl <;> rfl
set_option maxRecDepth 100000 in
set_option maxHeartbeats 2000000 in
theorem hclone_calls (w : World) (base : Nat) (v : Value) (L : List HoldT) (ho : w.ownsRow base 39 4 v L.length (hcells L)) (hl : L.length ≤ 100000) :
    Calls Tryd.prog 53 #[v] w fun e w' => ∃ v', e = .returned v' ∧ w'.ownsRow w.heap.size 39 4 v' L.length (hcells L) ∧ Mod [] w w' := by
  obtain ⟨hx, ⟨hv, hl0⟩ | ⟨g, cap, cur, hv, hg, hh, hc, hm, hs, hxs⟩⟩ := id ho
  · have hL : L = [] := List.length_eq_zero_iff.1 hl0
    subst hL
    subst hv
    have hk := Lib.run_eql_slice_nil (P := Tryd.prog) w 31 39 none 0 0 0 0 Tryd.underlying31
    go_enter Tryd.func53, Tryd.ntmps53
    go_wp2
    go_ret
    exact ⟨_, rfl, own_nil _ _ _ _, Mod.refl _ _⟩
  · subst hv
    obtain ⟨wa, hwa⟩ : ∃ wa, wa = w.alloc (.cells #[] 39) := ⟨_, rfl⟩
    have ma : Mod [] w wa := by rw [hwa]; exact (Mod.refl _ _).alloc _
    have h0 : wa.ownsRow w.heap.size 39 4 (.slice (some ⟨w.heap.size, 0, none⟩) 0 0) 0 [] := by rw [hwa]; exact own_empty w _ _ _ (Nat.le_refl _)
    have hoa := own_mod ho ma (by simp)
    have hnews : ∀ j u, (hcells L)[j]? = some u → wa.cell? ((⟨g, 0, none⟩ : Addr).add j) = some u := by
      intro j u hu
      have := (own_cell hoa hu).1
      have e1 : (⟨g, 0, none⟩ : Addr).add j = ⟨g, j, none⟩ := by
        unfold Addr.add
        by_cases z1 : j = 0 <;> simp [z1]
      rw [e1]
      exact this
    have HL4 : Hid ((hcells L).length = L.length * 4) := Lib.hid (hcells_len L)
    have HN := Lib.hid hnews
    have H0 := Lib.hid h0
    have HWA := Lib.hid hwa
    have MA := Lib.hid ma
    have H1 := Lib.hid (hcells_one L)
    obtain ⟨i0, hi, hz, hz1, hz2⟩ := info_parts info_hold
    have hk := Lib.run_eql_slice_nil (P := Tryd.prog) w 31 39 (some ⟨g, 0, none⟩) L.length cap 0 0 Tryd.underlying31
    have hml : L.length ≤ maxLen := by unfold maxLen; omega
    clear hx ho hoa hnews h0 hwa ma hh hs hxs hm
    go_enter Tryd.func53, Tryd.ntmps53
    go_wp2_with (
      at_builtin
      rw [← HWA.out]
      refine wpList_append_own _ rfl _ _ 31 rfl w.heap.size 39 i0 (.agg #[.int .i64 0, .int .i64 0, .int .i64 0, .int .i64 0]) 4 32 Tryd.underlying31 hi hz hz1 hz2 rfl (by omega) (.slice (some ⟨w.heap.size, 0, none⟩) 0 0) 0 [] rfl H0.out ⟨g, 0, none⟩ L.length cap (hcells L) rfl HL4.out HN.out H1.out (by omega) (by omega) MA.out.size ?_
      intro v9 w9 ho9 m9 _
      rw [List.nil_append, Nat.zero_add] at ho9
      have O9 := Lib.hid ho9
      have M9 := Lib.hid (mod_grown m9)
      clear ho9 m9)
    go_ret
    exact ⟨_, rfl, O9.out, MA.out.fresh M9.out (fun x hx => .inr (own_lt' H0.out x (by simpa using hx)).1)⟩
end Go.Proofs.YtijjbkkcienfgaaDoor
