/- Package field's Wrap, Chain and Code, and errors.Unwrap: what they come to at errors that are nil, a *Fault round such a one, or an Errno by itself. Premise: the library's variable of the type error is as laid. -/
import Derived.Test.YtphcoenooinmfaaDoorErr
import Derived.Lib.IfaceEq
namespace Go.Proofs.YtphcoenooinmfaaDoor
open Go.RowKit
set_option linter.unusedVariables false
set_option linter.unusedSimpArgs false

def faultF (e a : Int) (u : Value) (i : Nat) : Value := if i = 0 then .int .i64 e else if i = 1 then .int .i64 a else u
/-- An error whose chain is l; its Faults lie in the blocks E. -/
inductive Errs (w : World) : Value → List Int → List Nat → Prop
  | nil : Errs w .nilIface [] []
  | fault {g : Nat} {e a : Int} {u : Value} {l : List Int} {E : List Nat} : Arr w g 120 3 (faultF e a u) → Errs w u l E → Errs w (.iface 116 (.pointer (some ⟨g, 0, none⟩))) (e :: l) (g :: E)
  | num {e : Int} : Errs w (.iface 22 (.int .i64 e)) [e] []
theorem Errs.mod {S : List Nat} {w w' : World} {v : Value} {l : List Int} {E : List Nat} (h : Errs w v l E) (m : Mod S w w') (hs : ∀ x, x ∈ E → x ∉ S) : Errs w' v l E := by
  induction h with
  | nil => exact .nil
  | fault hA _ ih => exact .fault (hA.mod m (hs _ (by simp))) (ih fun x hx => hs x (by simp [hx]))
  | num => exact .num
theorem Errs.mod0 {w w' : World} {v : Value} {l : List Int} {E : List Nat} (h : Errs w v l E) (m : Mod [] w w') : Errs w' v l E := h.mod m (by simp)
theorem Errs.lt {w : World} {v : Value} {l : List Int} {E : List Nat} (h : Errs w v l E) : ∀ x, x ∈ E → x < w.heap.size := by
  induction h with
  | nil => intro x hx; cases hx
  | fault hA _ ih =>
    intro x hx
    rcases List.mem_cons.1 hx with e | e
    · subst e; exact hA.lt
    · exact ih x e
  | num => intro x hx; cases hx
theorem Errs.isNil {w : World} {v : Value} {l : List Int} {E : List Nat} (h : Errs w v l E) : (l = [] ↔ v = .nilIface) := by
  cases h <;> simp

def IfaceV (u : Value) : Prop := u = .nilIface ∨ ∃ t x, u = .iface t x
theorem Errs.iface {w : World} {v : Value} {l : List Int} {E : List Nat} (h : Errs w v l E) : IfaceV v := by
  cases h with
  | nil => exact .inl rfl
  | fault _ _ => exact .inr ⟨_, _, rfl⟩
  | num => exact .inr ⟨_, _, rfl⟩
theorem wrap_calls (w : World) (e a : Int) (u : Value) (he : e ≠ 0) (hu : IfaceV u) :
    Calls Tryd.prog 46 #[.int .i64 e, .int .i64 a, u] w fun r w' => r = .returned (.iface 116 (.pointer (some ⟨w.heap.size, 0, none⟩))) ∧ Arr w' w.heap.size 120 3 (faultF e a u) ∧ Mod [] w w' := by
  have he' : (e == 0) = false := by simpa using he
  have hA := Arr.new' w #[.int .i64 e, .int .i64 a, u] 120 3 (faultF e a u) rfl (fun i hi => by
    match i, hi with
    | 0, _ | 1, _ | 2, _ => rfl)
  have hM : Mod [] w (w.alloc (.cells #[.int .i64 e, .int .i64 a, u] 120)) := (Mod.refl _ _).alloc _
  clear he
  rcases hu with rfl | ⟨t, x, rfl⟩
  all_goals
    go_enter Tryd.func46, Tryd.ntmps46
    go_wp2
    go_ret
    exact ⟨rfl, hA, hM⟩
/-- Wrap, as a chain. -/
theorem wrapE_calls (w : World) (e a : Int) (u : Value) (l : List Int) (E : List Nat) (he : e ≠ 0) (hu : Errs w u l E) :
    Calls Tryd.prog 46 #[.int .i64 e, .int .i64 a, u] w fun r w' => ∃ v, r = .returned v ∧ Errs w' v (e :: l) (w.heap.size :: E) ∧ Mod [] w w' := by
  refine (wrap_calls w e a u he hu.iface).mono ?_
  rintro r w' ⟨rfl, hA, m⟩
  exact ⟨_, rfl, .fault hA (hu.mod0 m), m⟩
theorem unwrap_calls (w : World) (g : Nat) (e a : Int) (u : Value) (hA : Arr w g 120 3 (faultF e a u)) :
    Calls Tryd.prog 60 #[.iface 116 (.pointer (some ⟨g, 0, none⟩))] w fun r w' => r = .returned u ∧ w = w' := by
  have c2 : w.cell? ⟨g, 2, none⟩ = some u := hA.cell 2 (by omega)
  have zh := hasUnF
  have zm := mUnwrap
  go_enter Tryd.func60, Tryd.ntmps60
  go_wp2
  go_ret
  exact ⟨rfl, rfl⟩
/-- A row of one's own does not lie in a block of another element type. -/
theorem own_ne_arr {w : World} {base e n b T N : Nat} {sz : Nat} {v : Value} {xs : List Value} {f : Nat → Value} (h : w.ownsRow base e sz v n xs) (hA : Arr w b T N f) (hne : e ≠ T) : b ∉ v.ownBlock.toList := by
  intro hx
  obtain ⟨_, h1 | ⟨g', cap', cur, e1, _, e2, _⟩⟩ := h
  · rw [h1.1] at hx; simp [Value.ownBlock] at hx
  · rw [e1] at hx
    simp [Value.ownBlock] at hx
    subst hx
    obtain ⟨cs, f1, _⟩ := hA
    rw [e2] at f1
    injection f1 with f1
    injection f1 with _ f1
    exact hne f1
theorem Errs.modOwn {w w' : World} {v : Value} {l : List Int} {E : List Nat} {base n : Nat} {lv : Value} {xs : List Value} (h : Errs w v l E) (ho : w.ownsRow base 22 1 lv n xs) (m : Mod lv.ownBlock.toList w w') : Errs w' v l E := by
  induction h with
  | nil => exact .nil
  | fault hA _ ih => exact .fault (hA.mod m (own_ne_arr ho hA (by decide))) ih
  | num => exact .num
theorem errno_cmp : (Tryd.prog.info? 22).map (·.comparable) = some true := by kernel_rfl
theorem errno_eq (e : Int) (w : World) : (binOp .eql 64 (.iface 22 (.int .i64 e)) (.iface 22 (.int .i64 e))).run Tryd.prog w = .ok (.bool true) w := by
  have := Lib.run_eql_iface_int (P := Tryd.prog) w (k := .i64) e e Tryd.underlying64 errno_cmp Tryd.underlying22
  rw [this]
  simp
theorem errno_info : (Tryd.prog.info? 22).map (fun i => (i.zero, i.size, i.bytes)) = some (some (.int .i64 0), 1, 8) := by kernel_rfl
theorem fp_cmp : (Tryd.prog.info? 116).map (·.comparable) = some true := by kernel_rfl
theorem fault_size : (Tryd.prog.info? 120).map (·.size) = some 3 := by kernel_rfl
def ints (l : List Int) : List Value := l.map (Value.int .i64)
theorem ints_app (l : List Int) (x : Int) : ints l ++ [.int .i64 x] = ints (l ++ [x]) := by simp [ints]
def slLen : Value → Nat
  | .slice _ n _ => n
  | _ => 0
set_option maxHeartbeats 4000000 in
set_option maxRecDepth 100000 in
theorem chain_calls (w : World) (v : Value) (l : List Int) (E : List Nat) (hE : Errs w v l E) (hT : ErrT w) (hl : l.length ≤ 1000) :
    Calls Tryd.prog 34 #[v] w fun r w' => ∃ vl, r = .returned vl ∧ w'.ownsRow w.heap.size 22 1 vl l.length (ints l) ∧ Mod [] w w' := by
  have HT := Lib.hid hT
  have HE := Lib.hid hE
  have HL := Lib.hid hl
  clear hT hE
  obtain ⟨jp, hjp, hcmp⟩ := Option.map_eq_some_iff.1 fp_cmp
  obtain ⟨jf, hjf, hfs⟩ := Option.map_eq_some_iff.1 fault_size
  have HEQ := Lib.hid (fun (w : World) a => run_eql_iface_ptr_same (P := Tryd.prog) w a Tryd.underlying64 Tryd.underlying116 hjp hcmp hjf)
  clear hjp hcmp hjf hfs
  go_enter Tryd.func34, Tryd.ntmps34
  go_wp2
  go_loopw [0, 3] (fun u vl wr => ∃ (done rest : List Int) (E' : List Nat), done ++ rest = l ∧ slLen vl = done.length ∧ Errs wr u rest E' ∧ wr.ownsRow w.heap.size 22 1 vl done.length (ints done) ∧ Mod [] w wr) (fun _ vl _ => l.length - slLen vl)
  case atStart => exact ⟨[], l, E, rfl, rfl, HE.out, own_nil _ _ _ _, Mod.refl _ _⟩
  case round =>
    obtain ⟨done, rest, E', hdr, hsl, hE', hown, hM⟩ := hrel
    clear HE
    cases hE' with
    | nil =>
      simp only [List.append_nil] at hdr
      subst hdr
      have F := Lib.hid (And.intro hown hM)
      clear hsl hown hM
      go_wp2
      go_ret
      exact ⟨_, rfl, F.out⟩
    | @fault g e a u' l' E'' hA hR =>
      have hlen : l.length = done.length + (l'.length + 1) := by rw [← hdr]; simp
      have HDR := Lib.hid hdr
      have HSL := Lib.hid hsl
      have hb : done.length ≤ 1000 := by have := HL.out; omega
      have HLEN := Lib.hid hlen
      clear hdr hsl hlen
      obtain ⟨w2, hw2⟩ : ∃ w2, w2 = (wr.alloc (.cells #[.pointer none] 116)).alloc (.cells #[.int .i64 0] 22) := ⟨_, rfl⟩
      have m2 : Mod [] wr w2 := by rw [hw2]; exact ((Mod.refl _ _).alloc _).alloc _
      have hA2 : Arr w2 wr.heap.size 116 1 (fun _ => .pointer none) := by
        rw [hw2]
        exact (Arr.new' wr #[.pointer none] _ 1 _ rfl (fun i hi => by simp [show i = 0 by omega])).alloc _
      have C := Lib.hid (as_hitF ⟨g, 0, none⟩ wr.heap.size (.pointer none) w2 ((HT.out.mod hM (by simp)).mod m2 (by simp)) hA2)
      have HO := Lib.hid hown
      have HM := Lib.hid hM
      have M2 := Lib.hid m2
      have HA := Lib.hid hA
      have HRR := Lib.hid hR
      have HW2 := Lib.hid hw2
      have hgl := hA.lt
      clear hown hM m2 hA hR hw2 hA2
      go_wp2_with fail
      rw [← HW2.out]
      refine C.out.mono ?_
      rintro r w3 ⟨rfl, hA3, m3⟩
      have M3 := Lib.hid m3
      have m03 := M2.out.fresh m3 (fun x hx => .inr (by simp at hx; omega))
      have M03 := Lib.hid m03
      have hF := HA.out.mod m03 (by simp)
      have cF : w3.cell? ⟨g, 0, none⟩ = some (.int .i64 e) := hF.cell 0 (by omega)
      have c4 := hA3.cell 0 (by omega)
      have heq := HEQ.out w3 ⟨g, 0, none⟩
      have HF := Lib.hid hF
      obtain ⟨w4, hw4⟩ : ∃ w4, w4 = w3.alloc (.cells #[.int .i64 e] 22) := ⟨_, rfl⟩
      have m4 : Mod [] wr w4 := by rw [hw4]; exact m03.alloc _
      have HW4 := Lib.hid hw4
      have M4 := Lib.hid m4
      have ho4 := own_mod HO.out m4 (by simp)
      have h34 := m4.size
      have hsz3 := m03.size
      have hsz0 := HM.out.size
      have cn : w4.cell? ⟨w3.heap.size, 0, none⟩ = some (.int .i64 e) := by rw [hw4]; exact new_cell1 w3 _ _ _ rfl
      clear m3 hF hw4 m4 m03 hA3
      go_wp2_with (at_builtin; rw [← HW4.out]; refine app1 w.heap.size 71 22 (.int .i64 0) 1 8 Tryd.underlying71 errno_info rfl (by omega) (by omega) rfl _ _ rfl u3 _ _ rfl ho4 w3.heap.size [.int .i64 e] rfl rfl (news1 cn) (by simp [Value.oneCell']) (by omega) (by omega) ?_; intro ga cap w5 ho5 m5 hg5 hb5)
      have M5 : Mod [] w w5 := (HM.out.trans M4.out).fresh m5 (fun x hx => .inr (by
        have := own_lt' HO.out x (by simpa using hx)
        omega))
      have hF5 : Arr w5 g 120 3 (faultF e a u') := by
        refine (HA.out.mod M4.out (by simp)).mod m5 (own_ne_arr HO.out HA.out (by decide))
      have hR5 : Errs w5 u' l' E'' := (HRR.out.mod0 M4.out).modOwn (own_mod HO.out M4.out (by simp)) m5
      have HO5 := Lib.hid ho5
      have F := Lib.hid (And.intro hF5 hR5)
      clear hF5 hR5 m5 cF c4 heq ho5
      go_wp2_with fail
      refine (unwrap_calls w5 g e a u' F.out.1).mono ?_
      rintro r w6 ⟨rfl, rfl⟩
      go_wp2
      go_roundw
      case rel => exact ⟨done ++ [e], l', E'', by rw [← HDR.out]; simp, by simp [slLen], F.out.2, by rw [← ints_app]; simpa using HO5.out, M5⟩
      case measure => have h1 := HSL.out; have h2 := HLEN.out; simp only [slLen] at h1 ⊢; omega
    | @num e =>
      have hlen : l.length = done.length + 1 := by rw [← hdr]; simp
      have HDR := Lib.hid hdr
      have hb : done.length ≤ 1000 := by have := HL.out; omega
      have HLEN := Lib.hid hlen
      clear hdr hsl hlen
      obtain ⟨w2, hw2⟩ : ∃ w2, w2 = (wr.alloc (.cells #[.pointer none] 116)).alloc (.cells #[.int .i64 0] 22) := ⟨_, rfl⟩
      have m2 : Mod [] wr w2 := by rw [hw2]; exact ((Mod.refl _ _).alloc _).alloc _
      have hA2 : Arr w2 (wr.heap.size + 1) 22 1 (fun _ => .int .i64 0) := by
        rw [hw2]
        have := Arr.new' (wr.alloc (.cells #[.pointer none] 116)) #[.int .i64 0] 22 1 (fun _ => .int .i64 0) rfl (fun i hi => by simp [show i = 0 by omega])
        simpa using this
      have C := Lib.hid (as_miss e ⟨wr.heap.size, 0, none⟩ w2 ((HT.out.mod hM (by simp)).mod m2 (by simp)))
      have HO := Lib.hid hown
      have HM := Lib.hid hM
      have M2 := Lib.hid m2
      have HW2 := Lib.hid hw2
      have HA2 := Lib.hid hA2
      clear hown hM m2 hw2 hA2
      go_wp2_with fail
      rw [← HW2.out]
      refine C.out.mono ?_
      rintro r w3 ⟨rfl, m3⟩
      have M3 := Lib.hid m3
      have C2 := Lib.hid (as_hitN e (wr.heap.size + 1) (.int .i64 0) w3 (((HT.out.mod HM.out (by simp)).mod M2.out (by simp)).mod m3 (by simp)) (HA2.out.mod m3 (by simp)))
      clear m3
      go_wp2_with fail
      refine C2.out.mono ?_
      rintro r w4 ⟨rfl, hA4, m4⟩
      have m04 := (M2.out.trans M3.out).fresh m4 (fun x hx => .inr (by simp at hx; omega))
      have c4 := hA4.cell 0 (by omega)
      have heq := errno_eq e w4
      have ho4 := own_mod HO.out (m04.alloc (.cells #[.int .i64 e] 22)) (by simp)
      have hsz4 := m04.size
      have hsz0 := HM.out.size
      have cn : (w4.alloc (.cells #[.int .i64 e] 22)).cell? ⟨w4.heap.size, 0, none⟩ = some (.int .i64 e) := new_cell1 w4 _ _ _ rfl
      have M4 := Lib.hid (m04.alloc (.cells #[.int .i64 e] 22))
      clear m4 m04 hA4
      go_wp2_with (at_builtin; refine app1 w.heap.size 71 22 (.int .i64 0) 1 8 Tryd.underlying71 errno_info rfl (by omega) (by omega) rfl _ _ rfl u3 _ _ rfl ho4 w4.heap.size [.int .i64 e] rfl rfl (news1 cn) (by simp [Value.oneCell']) (by omega) (by simp; omega) ?_; intro ga cap w5 ho5 m5 hg5 hb5)
      have M5 : Mod [] w w5 := (HM.out.trans M4.out).fresh m5 (fun x hx => .inr (by
        have := own_lt' HO.out x (by simpa using hx)
        omega))
      have F : Hid (w5.ownsRow w.heap.size 22 1 (.slice (some ⟨ga, 0, none⟩) (done.length + 1) cap) l.length (ints l)) := Lib.hid (by rw [← HDR.out, ← ints_app]; simpa using ho5)
      have M5H := Lib.hid M5
      clear ho5 m5 M5
      go_wp2
      go_ret
      exact ⟨_, rfl, F.out, M5H.out⟩
/-- The first of the chain; 0 of none. -/
theorem code_calls (w : World) (v : Value) (l : List Int) (E : List Nat) (hE : Errs w v l E) (hT : ErrT w) (hl : l.length ≤ 1000) :
    Calls Tryd.prog 32 #[v] w fun r w' => r = .returned (.int .i64 (l.headD 0)) ∧ Mod [] w w' := by
  have C := Lib.hid (chain_calls w v l E hE hT hl)
  clear hE hT
  go_enter Tryd.func32, Tryd.ntmps32
  go_wp2_with fail
  refine C.out.mono ?_
  rintro r w1 ⟨vl, rfl, hown, m1⟩
  have M1 := Lib.hid m1
  clear m1
  cases l with
  | nil =>
    obtain ⟨A, cap, rfl, _⟩ := (own_slA hown).ex
    clear hown
    simp only [List.length_nil]
    go_wp2
    go_ret
    exact ⟨rfl, M1.out⟩
  | cons x l' =>
    obtain ⟨g, cap, rfl, _, hcap, hcm, hA⟩ := own_arr hown (by simp)
    have c0 := hA.cell 0 (by simp)
    have hx : (ints (x :: l')).getD 0 undef = .int .i64 x := rfl
    rw [hx] at c0
    have hn : ((l'.length : Int) + 1 == 0) = false := by simp; omega
    have hn0 : (0 : Int) < (l'.length : Int) + 1 := by omega
    have hn1 : 0 < l'.length + 1 := by omega
    have hc1 : cap ≤ 9223372036854775807 := by unfold maxLen at hcm; exact hcm
    simp only [List.length_cons] at hl hcap
    clear hown hA hx hcm
    simp only [List.length_cons]
    go_wp2
    go_ret
    exact ⟨rfl, M1.out⟩
end Go.Proofs.YtphcoenooinmfaaDoor
