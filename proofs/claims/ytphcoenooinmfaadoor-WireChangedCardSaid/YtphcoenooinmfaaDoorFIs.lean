/- Package field's Is, and errors.Is, at an error whose chain is one number. Premise: the library's variable of the type error is as laid. -/
import Derived.Test.YtphcoenooinmfaaDoorErrs
import Derived.LaidEql
import Derived.Stop.Asserts
import Derived.RowKitTokens
namespace Go.Proofs.YtphcoenooinmfaaDoor
open Go.RowKit Go.Extern.Stop Go.Stop Go.Extern
set_option linter.unusedVariables false
set_option linter.unusedSimpArgs false
attribute [local go_sem ↓] Go.wp_at_zero Go.wp_at_succ

theorem isComparableN (w : World) : ((ReflectliteType.method fun t => do Rtype.noPackHeld "Comparable" t; (fun a => Value.bool a.comparable) <$> typeInfo t) #[.agg #[.pointer (some ⟨2, 22, none⟩)]]).run Tryd.prog w = .ok (.bool true) w := by kernel_rfl
theorem mComparable (v : Value) (w : World) : (Go.method 321 176 v "Comparable").run Tryd.prog w = .ok (122, v) w := by kernel_rfl
theorem noIsN (v : Value) (xT : TypeId) (w : World) : (Instr.typeAssert (.iface 22 v) xT 186 true).run Tryd.prog w = .ok (.tuple #[.nilIface, .bool false]) w := run_typeAssert_lacksB Tryd.underlying186 (by kernel_rfl) (by kernel_rfl) v xT w
theorem noIsF (v : Value) (xT : TypeId) (w : World) : (Instr.typeAssert (.iface 116 v) xT 186 true).run Tryd.prog w = .ok (.tuple #[.nilIface, .bool false]) w := run_typeAssert_lacksB Tryd.underlying186 (by kernel_rfl) (by kernel_rfl) v xT w
set_option maxRecDepth 100000 in
set_option maxHeartbeats 1000000 in
/-- errors.Is at a Fault round nothing. -/
theorem is_fault (w : World) (g : Nat) (c a e : Int) (hA : Arr w g 120 3 (faultF c a .nilIface)) :
    Calls Tryd.prog 71 #[.iface 116 (.pointer (some ⟨g, 0, none⟩)), .iface 22 (.int .i64 e)] w fun r w' => r = .returned (.bool false) ∧ w' = w := by
  have hTO := @run_callFunc_extern Tryd.prog 89 _ ReflectliteType.typeOf Tryd.func89 (by kernel_rfl) (by kernel_rfl) (by kernel_rfl) (by kernel_rfl)
  have hRC := @run_callFunc_extern Tryd.prog 122 _ (ReflectliteType.method fun t => do Rtype.noPackHeld "Comparable" t; pure (.bool (← typeInfo t).comparable)) Tryd.func122 (by kernel_rfl) (by kernel_rfl) (by kernel_rfl) (by kernel_rfl)
  have tT := typeOfEN
  have cT := isComparableN
  have mR := mComparable
  have nF := noIsF
  have zh := hasUnF
  have zm := mUnwrap
  have c2 : w.cell? ⟨g, 2, none⟩ = some .nilIface := hA.cell 2 (by omega)
  have hty := run_eql_iface_types (P := Tryd.prog) 116 22 (.pointer (some ⟨g, 0, none⟩)) (.int .i64 e) Tryd.underlying64 (by decide) w
  go_enter Tryd.func71, Tryd.ntmps71
  go_wp2
  refine wp_loop_rounds 1 ?_
  rw [rounds_succ]
  go_wp2
  go_ret
  exact ⟨rfl, rfl⟩
set_option maxRecDepth 100000 in
set_option maxHeartbeats 1000000 in
/-- errors.Is at two numbers. -/
theorem is_num (w : World) (c e : Int) :
    Calls Tryd.prog 71 #[.iface 22 (.int .i64 c), .iface 22 (.int .i64 e)] w fun r w' => r = .returned (.bool (c == e)) ∧ w' = w := by
  have hTO := @run_callFunc_extern Tryd.prog 89 _ ReflectliteType.typeOf Tryd.func89 (by kernel_rfl) (by kernel_rfl) (by kernel_rfl) (by kernel_rfl)
  have hRC := @run_callFunc_extern Tryd.prog 122 _ (ReflectliteType.method fun t => do Rtype.noPackHeld "Comparable" t; pure (.bool (← typeInfo t).comparable)) Tryd.func122 (by kernel_rfl) (by kernel_rfl) (by kernel_rfl) (by kernel_rfl)
  have tT := typeOfEN
  have cT := isComparableN
  have mR := mComparable
  have nN := noIsN
  have uN := noUnN
  have vN := noUsN
  have heq := Lib.run_eql_iface_int (P := Tryd.prog) w (k := .i64) c e Tryd.underlying64 errno_cmp Tryd.underlying22
  by_cases h : c = e
  · have h1 : (c == e) = true := by simpa using h
    clear h
    go_enter Tryd.func71, Tryd.ntmps71
    go_wp2
    refine wp_loop_rounds 1 ?_
    rw [rounds_succ]
    go_wp2
    go_ret
    exact ⟨by rw [h1]; rfl, rfl⟩
  · have h1 : (c == e) = false := by simpa using h
    clear h
    go_enter Tryd.func71, Tryd.ntmps71
    go_wp2
    refine wp_loop_rounds 1 ?_
    rw [rounds_succ]
    go_wp2
    go_ret
    exact ⟨by rw [h1]; rfl, rfl⟩
theorem isE_calls (w : World) (v : Value) (c e : Int) (E : List Nat) (hE : Errs w v [c] E) :
    Calls Tryd.prog 71 #[v, .iface 22 (.int .i64 e)] w fun r w' => (r = .returned (.bool false) ∨ r = .returned (.bool (c == e))) ∧ w' = w := by
  cases hE with
  | fault hA hu =>
    cases hu with
    | nil => exact (is_fault w _ c _ e hA).mono fun r w' ⟨h1, h2⟩ => ⟨.inl h1, h2⟩
  | num => exact (is_num w c e).mono fun r w' ⟨h1, h2⟩ => ⟨.inr h1, h2⟩
set_option maxRecDepth 100000 in
set_option maxHeartbeats 1000000 in
theorem fieldIs_yes (w : World) (v : Value) (c : Int) (E : List Nat) (hE : Errs w v [c] E) (hT : ErrT w) (he : c ≠ 0) :
    Calls Tryd.prog 42 #[v, .int .i64 c] w fun r w' => r = .returned (.bool true) ∧ Mod [] w w' := by
  have he' : (c == 0) = false := by simpa using he
  have I := Lib.hid (isE_calls w v c c E hE)
  have C := Lib.hid (chain_calls w v [c] E hE hT (by simp))
  simp only [List.length_singleton] at C
  clear hE he
  go_enter Tryd.func42, Tryd.ntmps42
  go_wp2_with fail
  refine I.out.mono ?_
  rintro r w1 ⟨hr, rfl⟩
  rw [beq_self_eq_true] at hr
  rcases hr with rfl | rfl
  · go_wp2_with fail
    (with_reducible refine C.out.mono ?_)
    rintro r w2 ⟨vl, rfl, ho, m2⟩
    obtain ⟨g, cap, rfl, -, hc1, hc2, hAr⟩ := own_arr ho (by omega)
    have hcap : cap ≤ 9223372036854775807 := by unfold maxLen at hc2; omega
    have q0 : w2.cell? ⟨g, 0, none⟩ = some (.int .i64 c) := hAr.cell 0 (by omega)
    have M2 := Lib.hid m2
    clear ho m2 hAr hc2 C I
    go_wp2
    go_loopw [16] (fun i wr => i = .int .i64 0 ∧ wr = w2) (fun _ _ => 0)
    case atStart => exact ⟨rfl, rfl⟩
    case round =>
      obtain ⟨rfl, rfl⟩ := hrel
      go_wp2
      go_ret
      exact ⟨rfl, M2.out⟩
  · go_wp2
    go_ret
    exact ⟨rfl, Mod.refl _ _⟩
set_option maxRecDepth 100000 in
set_option maxHeartbeats 1000000 in
theorem fieldIs_no (w : World) (v : Value) (c e : Int) (E : List Nat) (hE : Errs w v [c] E) (hT : ErrT w) (he : e ≠ 0) (hce : c ≠ e) :
    Calls Tryd.prog 42 #[v, .int .i64 e] w fun r w' => r = .returned (.bool false) ∧ Mod [] w w' := by
  have he' : (e == 0) = false := by simpa using he
  have hce' : (c == e) = false := by simpa using hce
  have I := Lib.hid (isE_calls w v c e E hE)
  have C := Lib.hid (chain_calls w v [c] E hE hT (by simp))
  simp only [List.length_singleton] at C
  clear hE he
  go_enter Tryd.func42, Tryd.ntmps42
  go_wp2_with fail
  refine I.out.mono ?_
  rintro r w1 ⟨hr, rfl⟩
  rw [hce', or_self] at hr
  subst hr
  go_wp2_with fail
  (with_reducible refine C.out.mono ?_)
  rintro r w2 ⟨vl, rfl, ho, m2⟩
  obtain ⟨g, cap, rfl, -, hc1, hc2, hAr⟩ := own_arr ho (by omega)
  have hcap : cap ≤ 9223372036854775807 := by unfold maxLen at hc2; omega
  have q0 : w2.cell? ⟨g, 0, none⟩ = some (.int .i64 c) := hAr.cell 0 (by omega)
  have M2 := Lib.hid m2
  clear ho m2 hAr hc2 C I
  go_wp2
  go_loopw [16] (fun i wr => (i = .int .i64 0 ∨ i = .int .i64 1) ∧ wr = w2) (fun i _ => 1 - (intOf i).toNat)
  case atStart => exact ⟨.inl rfl, rfl⟩
  case round =>
    obtain ⟨hi, rfl⟩ := hrel
    rcases hi with rfl | rfl
    · go_wp2
      go_roundw
      case rel => exact ⟨.inr rfl, trivial⟩
      case measure => simp [intOf]
    · go_wp2
      go_ret
      exact ⟨rfl, M2.out⟩
end Go.Proofs.YtphcoenooinmfaaDoor
