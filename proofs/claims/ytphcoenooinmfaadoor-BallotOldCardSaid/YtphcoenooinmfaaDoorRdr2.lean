/- Package field's reader: Num, Text, End and At. No condition but that the reader lies in memory. -/
import Derived.Test.YtphcoenooinmfaaDoorRdr
namespace Go.Proofs.YtphcoenooinmfaaDoor
open Go.RowKit
set_option linter.unusedVariables false
set_option linter.unusedSimpArgs false
attribute [local go_sem ↓] Go.wp_at_zero Go.wp_at_succ

theorem Rdr.toI {w : World} {T b : Nat} {s : ByteArray} {a c : Nat} {z : Int} (h : Rdr w T b s a) (hz : z = (c : Int)) : Rdr (w.setCell ⟨b, 1, none⟩ (.int .i64 z)) T b s c := by
  subst hz
  exact h.to c
theorem newReader_calls (w : World) (s : ByteArray) :
    Calls Tryd.prog 62 #[.string s] w fun r w' => r = .returned (.pointer (some ⟨w.heap.size, 0, none⟩)) ∧ Rdr w' 167 w.heap.size s 0 ∧ Mod [] w w' := by
  have H := Rdr.new w 167 s
  have m : Mod [] w (w.alloc (.cells #[.string s, .int .i64 0] 167)) := (Mod.refl _ _).alloc _
  go_enter Tryd.func62, Tryd.ntmps62
  go_wp2
  go_ret
  exact ⟨rfl, H, m⟩
theorem rat_calls (w : World) (b : Nat) (s : ByteArray) (a : Nat) (hR : Rdr w 167 b s a) :
    Calls Tryd.prog 64 #[.pointer (some ⟨b, 0, none⟩)] w fun r w' => r = .returned (.int .i64 a) ∧ w = w' := by
  have c1 := hR.c1
  clear hR
  go_enter Tryd.func64, Tryd.ntmps64
  go_wp2
  go_ret
  exact ⟨rfl, rfl⟩
/-- What a reading call leaves: a value, an error of the chain l; where the reader is then. -/
def RdPost (w : World) (T b : Nat) (s : ByteArray) (x : Value) (l : List Int) (a' : Nat) (r : Ending) (w' : World) : Prop :=
  ∃ v E, r = .returned (.tuple #[x, v]) ∧ Errs w' v l E ∧ (∀ x, x ∈ E → w.heap.size ≤ x) ∧ Rdr w' T b s a' ∧ Mod [b] w w'
theorem rd_good {s : ByteArray} {a : Nat} {k : Int} (h : rdL s a k = []) : wideB k = true ∧ (a : Int) + k ≤ s.size ∧ rdA s a k = a + k.toNat ∧ 0 < k ∧ k ≤ 8 := by
  unfold rdL at h
  split at h
  · cases h
  · rename_i hw
    have hw' : wideB k = true := by simpa using hw
    have hk := wide_cases hw'
    split at h
    · cases h
    · rename_i hs
      refine ⟨hw', by omega, ?_, by omega, by omega⟩
      unfold rdA
      rw [if_pos]
      unfold rdL
      rw [if_neg hw, if_neg hs]
      exact h
set_option maxRecDepth 100000 in
set_option maxHeartbeats 2000000 in
theorem rnum_calls (w : World) (b : Nat) (s : ByteArray) (a : Nat) (k : Int) (hR : Rdr w 167 b s a) (ha : a ≤ s.size) (hs : s.size ≤ 1000000) (k0 : -9223372036854775808 ≤ k) (k1 : k ≤ 9223372036854775807) :
    Calls Tryd.prog 83 #[.pointer (some ⟨b, 0, none⟩), .int .i64 k] w (RdPost w 167 b s (.int .i64 (rdN s a k)) (rdL s a k) (rdA s a k)) := by
  have P := Lib.hid (peek_calls w b s a k hR ha hs k0 k1)
  have HR := Lib.hid hR
  clear hR
  obtain ⟨x, hx⟩ : ∃ x, x = rdN s a k := ⟨_, rfl⟩
  have HX := Lib.hid hx
  unfold PeekPost at P
  rw [← hx] at P ⊢
  clear hx
  by_cases hl : rdL s a k = []
  · obtain ⟨-, hfit, hA, hk0, hk8⟩ := rd_good hl
    obtain ⟨kn, rfl⟩ : ∃ kn : Nat, k = (kn : Int) := ⟨k.toNat, by omega⟩
    have HA := Lib.hid hA
    have HL := Lib.hid hl
    clear hA hl
    go_enter Tryd.func83, Tryd.ntmps83
    go_wp2_with fail
    refine P.out.mono ?_
    rintro r w1 ⟨v, E, rfl, hE, hx, m1⟩
    have hv : v = .nilIface := hE.isNil.1 HL.out
    subst hv
    have h1 := HR.out.mod0 m1
    have d1 := h1.c1
    have f1 := Arr.free h1 1
    have h2 := Lib.hid (h1.toI (c := a + kn) (z := (a : Int) + (kn : Int)) (by omega))
    have M := Lib.hid (m1.nil.setCell (S := [b]) (p := ⟨b, 1, none⟩) (.inl (by simp)) (.int .i64 ((a : Int) + (kn : Int))))
    have M1 := Lib.hid m1
    clear hE hx m1 h1
    go_wp2
    go_ret2
    refine ⟨.nilIface, [], rfl, by rw [HL.out]; exact .nil, by simp, by rw [HA.out]; exact h2.out, M.out⟩
  · have HL := Lib.hid hl
    have hA : rdA s a k = a := by unfold rdA; rw [if_neg hl]
    have HA := Lib.hid hA
    clear hA hl
    go_enter Tryd.func83, Tryd.ntmps83
    go_wp2_with fail
    refine P.out.mono ?_
    rintro r w1 ⟨v, E, rfl, hE, hx, m1⟩
    have hv : IfaceV v := hE.iface
    have hv2 : v ≠ .nilIface := fun e => HL.out (hE.isNil.2 e)
    have F := Lib.hid (show RdPost w 167 b s (.int .i64 x) (rdL s a k) (rdA s a k) (.returned (.tuple #[.int .i64 x, v])) w1 from ⟨v, E, rfl, hE, hx, by rw [HA.out]; exact HR.out.mod0 m1, m1.nil⟩)
    clear hE hx m1
    rcases hv with rfl | ⟨t, y, rfl⟩
    · exact absurd rfl hv2
    · clear hv2
      go_wp2
      go_ret2
      exact F.out
theorem rd2 (s : ByteArray) (a : Nat) : (((s.size : Int) - a < 2) ∧ rdL s a 2 = [10] ∧ rtL s a = [10, 10]) ∨ (¬ ((s.size : Int) - a < 2) ∧ rdL s a 2 = [] ∧ rdN s a 2 = (leN (byS s) a 2 : Nat) ∧ leN (byS s) a 2 < 65536) := by
  have h2 : leN (byS s) a 2 < 65536 := leN_lt (byS s) a 2 (byS_lt s)
  have hw : wideB 2 = true := by decide
  by_cases h : (s.size : Int) - a < 2
  · have e : rdL s a 2 = [10] := by simp [rdL, hw, h]
    exact .inl ⟨h, e, by simp [rtL, e]⟩
  · refine .inr ⟨h, ?_, ?_, h2⟩
    · unfold rdL
      rw [if_neg (by simp [hw]), if_neg h, if_neg (by simp; omega)]
    · unfold rdN
      rw [if_neg (by simp [hw]), if_neg h, if_neg (by simp; omega)]
      rfl
set_option maxRecDepth 100000 in
set_option maxHeartbeats 2000000 in
theorem rtext_calls (w : World) (b : Nat) (s : ByteArray) (a : Nat) (hR : Rdr w 167 b s a) (hT : ErrT w) (ha : a ≤ s.size) (hs : s.size ≤ 1000000) :
    Calls Tryd.prog 85 #[.pointer (some ⟨b, 0, none⟩)] w (RdPost w 167 b s (.string (rtS s a)) (rtL s a) (rtA s a)) := by
  have P := Lib.hid (peek_calls w b s a 2 hR ha hs (by omega) (by omega))
  have HR := Lib.hid hR
  have HT := Lib.hid hT
  clear hR hT
  unfold PeekPost at P
  rcases rd2 s a with ⟨hsh, e1, e2⟩ | ⟨hsh, e1, e2, hN⟩
  · have e3 : rtS s a = ⟨#[]⟩ := by unfold rtS; rw [if_neg (by rw [e2]; simp)]
    have e4 : rtA s a = a := by unfold rtA; rw [if_neg (by rw [e2]; simp)]
    rw [e2, e3, e4]
    rw [e1] at P
    generalize rdN s a 2 = x at P
    clear e1 e2 e3 e4
    go_enter Tryd.func85, Tryd.ntmps85
    go_wp2_with fail
    refine P.out.mono ?_
    rintro r w1 ⟨v, E, rfl, hE, hx, m1⟩
    have hv : IfaceV v := hE.iface
    have hv2 : v ≠ .nilIface := fun e => by have := hE.isNil.2 e; cases this
    have h1 := HR.out.mod0 m1
    have d1 := h1.c1
    have HE := Lib.hid hE
    have HXX := Lib.hid hx
    have M1 := Lib.hid m1
    have C1 := Lib.hid (code_calls w1.drew v [10] E (hE.mod0 ((Mod.refl _ _).drew)) ((HT.out.mod m1 (by simp)).mod ((Mod.refl [] _).drew) (by simp)) (by simp))
    have C2 := Lib.hid (fun w2 (m2 : Mod [] w1.drew w2) => wrapE_calls w2 10 a v [10] E (by omega) (hE.mod0 ((Mod.refl [] w1).drew.trans m2)))
    have KS := Lib.hid (show ∀ w', Mod [] w1.drew w' → w'.cell? ⟨b, 1, none⟩ = some (.int .i64 a) from fun w' m => m.cell' (w := w1.drew) d1 (by simp))
    clear hE hx m1 h1
    rcases hv with rfl | ⟨t, y, rfl⟩
    · exact absurd rfl hv2
    · clear hv2
      go_wp2
      go_region_held3 (fun w' => w'.cell? ⟨b, 1, none⟩ = some (.int .i64 a))
        ((refine KS.out _ ?_; with_reducible first
          | exact Mod.refl _ _
          | exact m2
          | exact m23))
        (first
          | (go_at_call 32; (with_reducible refine C1.out.mono ?_); rintro r w2 ⟨rfl, m2⟩; simp only [List.headD_cons])
          | (go_at_call 46; (with_reducible refine (C2.out _ m2).mono ?_); rintro r w3 ⟨v3, rfl, hE3, m3⟩; have m23 := m2.trans m3))
      have hsz := M1.out.size
      have hsz2 : w1.heap.size ≤ w2.heap.size := m2.size
      have F := Lib.hid (show RdPost w 167 b s (.string ⟨#[]⟩) [10, 10] a (.returned (.tuple #[.string ⟨#[]⟩, v3])) w3 from ⟨v3, _, rfl, hE3, fun x hx => by
        rcases List.mem_cons.1 hx with e | e
        · omega
        · exact HXX.out x e, ((HR.out.mod0 M1.out).mod0 ((Mod.refl [] w1).drew)).mod0 m23, (M1.out.trans ((Mod.refl [] w1).drew.trans m23)).nil⟩)
      clear hE3 m3 m23 m2
      go_wp2
      go_ret2
      exact F.out
  · obtain ⟨N, hN'⟩ : ∃ N, N = leN (byS s) a 2 := ⟨_, rfl⟩
    rw [← hN'] at e2 hN
    rw [e1, e2] at P
    have a1 : rtL s a = if 1024 < N then [11] else if (s.size : Int) - a - 2 < N then [10] else [] := by
      unfold rtL
      rw [if_neg (by rw [e1]; simp), e2]
      by_cases h9 : 1024 < N
      · rw [if_pos h9, if_pos (by omega)]
      · rw [if_neg h9, if_neg (by omega)]
    have a2 : rtL s a = [] → rtA s a = a + 2 + N ∧ rtS s a = s.extract (a + 2) (a + 2 + N) := fun h => by
      unfold rtA rtS
      rw [if_pos h, if_pos h, e2]
      simp
    have a3 : rtL s a ≠ [] → rtA s a = a ∧ rtS s a = ⟨#[]⟩ := fun h => by
      unfold rtA rtS
      rw [if_neg h, if_neg h]
      simp
    have A1 := Lib.hid a1
    have A2 := Lib.hid a2
    have A3 := Lib.hid a3
    clear a1 a2 a3 e1 e2 hN'
    have ws : IntKind.i64.wrap ((s.size : Int) - (a : Int)) = (s.size : Int) - (a : Int) := IntWalk.i64_in _ (by omega)
    have ws2 : IntKind.i64.wrap ((s.size : Int) - (a : Int) - 2) = (s.size : Int) - (a : Int) - 2 := IntWalk.i64_in _ (by omega)
    by_cases hbig : 1024 < N
    · have t1 : decide ((1024 : Int) < (N : Int)) = true := by simp; omega
      have eL : rtL s a = [11] := by rw [A1.out, if_pos hbig]
      obtain ⟨eA, eS⟩ := A3.out (by rw [eL]; simp)
      rw [eL, eA, eS]
      clear eL eA eS A1 A2 A3 ws ws2
      go_enter Tryd.func85, Tryd.ntmps85
      go_wp2_with fail
      refine P.out.mono ?_
      rintro r w1 ⟨v, E, rfl, hE, hx, m1⟩
      have hv : v = .nilIface := hE.isNil.1 rfl
      subst hv
      have h1 := HR.out.mod0 m1
      have d1 := h1.c1
      have M1 := Lib.hid m1
      have H1 := Lib.hid h1
      clear hE hx m1 h1
      go_wp2_with fail
      refine (wrapE_calls w1 11 a .nilIface [] [] (by omega) .nil).mono ?_
      rintro r w2 ⟨v2, rfl, hE2, m2⟩
      have hsz := M1.out.size
      have F := Lib.hid (show RdPost w 167 b s (.string ⟨#[]⟩) [11] a (.returned (.tuple #[.string ⟨#[]⟩, v2])) w2 from ⟨v2, _, rfl, hE2, fun x hx => by simp at hx; omega, H1.out.mod0 m2, (M1.out.trans m2).nil⟩)
      clear hE2 m2
      go_wp2
      go_ret2
      exact F.out
    have t1 : decide ((1024 : Int) < (N : Int)) = false := by simp; omega
    by_cases hsm : (s.size : Int) - a - 2 < N
    · have t2 : decide ((s.size : Int) - (a : Int) - 2 < (N : Int)) = true := by simpa using hsm
      have eL : rtL s a = [10] := by rw [A1.out, if_neg hbig, if_pos hsm]
      obtain ⟨eA, eS⟩ := A3.out (by rw [eL]; simp)
      rw [eL, eA, eS]
      clear eL eA eS A1 A2 A3 hsm hbig
      go_enter Tryd.func85, Tryd.ntmps85
      go_wp2_with fail
      refine P.out.mono ?_
      rintro r w1 ⟨v, E, rfl, hE, hx, m1⟩
      have hv : v = .nilIface := hE.isNil.1 rfl
      subst hv
      have h1 := HR.out.mod0 m1
      have d0 := h1.c0
      have d1 := h1.c1
      have M1 := Lib.hid m1
      have H1 := Lib.hid h1
      clear hE hx m1 h1
      go_wp2
      go_quiet (fail)
      go_wp2_with fail
      refine (wrapE_calls _ 10 a .nilIface [] [] (by omega) .nil).mono ?_
      rintro r w2 ⟨v2, rfl, hE2, m2⟩
      have hsz := M1.out.size
      have F := Lib.hid (show RdPost w 167 b s (.string ⟨#[]⟩) [10] a (.returned (.tuple #[.string ⟨#[]⟩, v2])) w2 from ⟨v2, _, rfl, hE2, fun x hx => by simp at hx; omega, (H1.out.mod0 (((Mod.refl [] w1).drewN _).trans m2)), (M1.out.trans (((Mod.refl [] w1).drewN _).trans m2)).nil⟩)
      clear hE2 m2
      go_wp2
      go_ret2
      exact F.out
    · have t2 : decide ((s.size : Int) - (a : Int) - 2 < (N : Int)) = false := by simpa using hsm
      have eL : rtL s a = [] := by rw [A1.out, if_neg hbig, if_neg hsm]
      obtain ⟨eA, eS⟩ := A2.out eL
      rw [eL, eA, eS]
      have hfit : a + 2 + N ≤ s.size := by omega
      clear eL eA eS A1 A2 A3 hsm hbig
      go_enter Tryd.func85, Tryd.ntmps85
      go_wp2_with fail
      refine P.out.mono ?_
      rintro r w1 ⟨v, E, rfl, hE, hx, m1⟩
      have hv : v = .nilIface := hE.isNil.1 rfl
      subst hv
      have h1 := HR.out.mod0 m1
      have d0 := h1.c0
      have d1 := h1.c1
      have f1 := Arr.free h1 1
      have h2 := h1.toI (c := a + 2 + N) (z := (a : Int) + 2 + (N : Int)) (by omega)
      have k0 := h2.c0
      have k1 : (w1.setCell ⟨b, 1, none⟩ (.int .i64 ((a : Int) + 2 + (N : Int)))).cell? ⟨b, 1, none⟩ = some (.int .i64 ((a : Int) + 2 + (N : Int))) := by rw [h2.c1]; congr 2 <;> omega
      have M1 := Lib.hid m1
      have H2 := Lib.hid (fun q => Rdr.toI (w := w1.drewN q) (c := a + 2 + N) (z := (a : Int) + 2 + (N : Int)) h1 (by omega))
      have n1 : ((a : Int) + 2).toNat = a + 2 := by omega
      have n2 : (0 : Int) ≤ (a : Int) + 2 := by omega
      have n3 : (a : Int) + 2 ≤ (a : Int) + 2 + (N : Int) := by omega
      have n4 : (a : Int) + 2 + (N : Int) ≤ (s.size : Int) := by omega
      have n5 : ((a : Int) + 2 + (N : Int)).toNat = a + 2 + N := by omega
      have n6 : (0 : Int) ≤ (a : Int) + 2 + (N : Int) := by omega
      have M2 := Lib.hid (fun q => ((m1.nil (S := [b])).drewN q).setCell (p := ⟨b, 1, none⟩) (.inl (by simp)) (.int .i64 ((a : Int) + 2 + (N : Int))))
      clear hE hx m1 h1 h2
      go_wp2
      go_quiet (fail)
      clear ws ws2
      go_wp2
      go_quiet (fail)
      go_wp2
      go_ret2
      exact ⟨.nilIface, [], rfl, .nil, by simp, H2.out _, (M2.out _).drewN _⟩
set_option maxRecDepth 100000 in
theorem rend_calls (w : World) (b : Nat) (s : ByteArray) (a : Nat) (hR : Rdr w 167 b s a) (ha : a ≤ s.size) (hs : s.size ≤ 1000000) :
    Calls Tryd.prog 86 #[.pointer (some ⟨b, 0, none⟩)] w fun r w' => ∃ v E, r = .returned v ∧ Errs w' v (endL s a) E ∧ (∀ x, x ∈ E → w.heap.size ≤ x) ∧ Mod [] w w' := by
  have c0 := hR.c0
  have c1 := hR.c1
  clear hR
  by_cases h : a < s.size
  · have e : endL s a = [11] := by simp [endL, h]
    rw [e]
    have i1 : (a : Int) < (s.size : Int) := by omega
    have t1 : decide (a < s.size) = true := by simpa using h
    clear e
    go_enter Tryd.func86, Tryd.ntmps86
    go_wp2
    go_quiet (fail)
    go_wp2_with fail
    refine (wrapE_calls _ 11 a .nilIface [] [] (by omega) .nil).mono ?_
    rintro r w2 ⟨v2, rfl, hE2, m2⟩
    have F := Lib.hid (And.intro hE2 m2)
    clear hE2 m2
    go_wp2
    go_ret
    exact ⟨v2, _, rfl, F.out.1, fun x hx => by simp at hx; omega, ((Mod.refl [] _).drewN _).trans F.out.2⟩
  · have e : endL s a = [] := by simp [endL, h]
    rw [e]
    have i1 : ¬ (a : Int) < (s.size : Int) := by omega
    have t1 : decide (a < s.size) = false := by simpa using h
    clear e
    go_enter Tryd.func86, Tryd.ntmps86
    go_wp2
    go_quiet (fail)
    go_wp2
    go_ret
    exact ⟨.nilIface, [], rfl, .nil, by simp, ((Mod.refl [] _).drewN _)⟩
end Go.Proofs.YtphcoenooinmfaaDoor
