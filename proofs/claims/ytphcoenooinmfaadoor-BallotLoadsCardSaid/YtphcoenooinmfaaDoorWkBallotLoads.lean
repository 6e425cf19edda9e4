/- The walk of the law BallotLoads: any bytes are the document's acceptor, or none; what is loaded is saved as it was. Premises: the listed variables are as laid. -/
import Derived.Test.YtphcoenooinmfaaDoorBal20
import Derived.Test.YtphcoenooinmfaaDoorRow
namespace Go.Proofs.YtphcoenooinmfaaDoor
open Go.RowKit
set_option linter.unusedVariables false
set_option linter.unusedSimpArgs false
attribute [local go_sem ↓] Go.wp_at_zero Go.wp_at_succ

theorem ldR_some {s : ByteArray} {p : Int} {g : Nat → Option VoteT} (h : ldR s = some (p, g)) : sealB (txt (savB p (votesN g 4096))) = s ∧ okG p g ∧ 12 * (votesN g 4096).length ≤ s.size := by
  unfold ldR at h
  split at h
  · rename_i hk
    obtain ⟨h1, h2, h3⟩ := sav_ld h
    have := body_le' s
    exact ⟨by rw [h1, seal_back hk], h2, by omega⟩
  · cases h
set_option maxRecDepth 100000 in
set_option maxHeartbeats 4000000 in
theorem ballotLoads_walk (W : World) (t0 : Steps W) (t1 : ErrT W) (a0 : ByteArray) (w0 : a0.size ≤ 140737488351232) :
    Calls Tryd.prog 9 #[.string a0] W fun e w' => e = .returned (.bool true) ∧ Below W.heap.size W w' := by
  have SH := Lib.hid (shown10_calls W t0)
  have T := Lib.hid (And.intro t0 t1)
  clear t0 t1
  by_cases hbig : 4096 < a0.size
  · have hi : (4096 : Int) < (a0.size : Int) := by omega
    go_enter Tryd.func9, Tryd.ntmps9
    go_wp2_with fail
    refine SH.out.mono ?_
    rintro e w1 ⟨rfl, m1⟩
    have M1 := Lib.hid m1
    clear m1
    go_wp2
    go_ret
    exact ⟨rfl, M1.out.below (Nat.le_refl _) (by simp)⟩
  have hi : ¬ (4096 : Int) < (a0.size : Int) := by omega
  go_enter Tryd.func9, Tryd.ntmps9
  go_wp2_with fail
  refine SH.out.mono ?_
  rintro e w1 ⟨rfl, m1⟩
  have M1 := Lib.hid m1
  have P1 := Lib.hid (load_calls w1 a0 (by omega) (T.out.1.mod m1 (by simp)) (T.out.2.mod m1 (by simp)))
  clear m1 SH
  go_wp2_with fail
  (with_reducible refine P1.out.mono ?_)
  rintro r w2 ⟨m2, hL⟩
  have M2 := Lib.hid (M1.out.trans m2)
  have P2 := Lib.hid (rload_calls w2 a0 (by omega) (T.out.2.mod M2.out (by simp)))
  rcases hL with ⟨hno, rfl⟩ | ⟨p, g, f, A, hyes, rfl, hA, hlo⟩
  · have HN := Lib.hid hno
    clear m2 P1 hno
    go_wp2_with fail
    (with_reducible refine P2.out.mono ?_)
    rintro r w3 ⟨m3, ⟨_, rfl⟩ | ⟨p, g, r, v, hy, _⟩⟩
    · have M3 := Lib.hid (M2.out.trans m3)
      clear m3 P2
      go_wp2
      go_quiet (fail)
      go_wp2
      go_ret
      exact ⟨rfl, (M3.out.drewN _).below (Nat.le_refl _) (by simp)⟩
    · rw [HN.out] at hy
      cases hy
  · have HY := Lib.hid hyes
    have HA := Lib.hid hA
    clear m2 P1 hyes hA
    go_wp2_with fail
    (with_reducible refine P2.out.mono ?_)
    rintro e w3 ⟨m3, ⟨hn, _⟩ | ⟨p', g', r, v, hy, rfl, hR, hrl⟩⟩
    · rw [HY.out] at hn
      cases hn
    · rw [HY.out] at hy
      obtain ⟨e1, e2⟩ := Prod.mk.inj (Option.some.inj hy)
      subst e1
      subst e2
      obtain ⟨hsv, hok, hlen⟩ := ldR_some HY.out
      have M3 := Lib.hid (M2.out.trans m3)
      have A3 := HA.out.mod m3
      have C1 := Lib.hid (save_calls w3.drew A p g f (A3.mod ((Mod.refl _ _).drew)) hok (by omega) (T.out.1.mod M3.out.drew (by simp)) (T.out.2.mod M3.out.drew (by simp)))
      unfold SavePost at C1
      rw [hsv] at C1
      have HA3 := Lib.hid A3
      have HR3 := Lib.hid hR
      have HFA := Lib.hid (flt_all hok)
      have HLN : Hid ((votesN g 4096).length ≤ 100000) := Lib.hid (by omega)
      have KS := Lib.hid (show ∀ w', Mod [] w3 w' → w'.cell? ⟨r, 0, none⟩ = some (.int .i64 p) ∧ w'.cell? ⟨r, 1, none⟩ = some v from fun w' m => ⟨(hR.mod0 m).c0, (hR.mod0 m).c1⟩)
      have Z0 : Hid (Mod [] w3 w3) := Lib.hid (Mod.refl _ _)
      clear hy m3 hR hsv hok hlen A3 P2
      go_wp2
      go_region_held3 (fun w' => w'.cell? ⟨r, 0, none⟩ = some (.int .i64 p) ∧ w'.cell? ⟨r, 1, none⟩ = some v)
        ((refine KS.out _ ?_; with_reducible first
          | exact Z0.out.drew
          | exact Z4.out
          | exact Z5.out
          | exact Z6.out
          | exact Z7.out))
        (first
          | (go_at_call 40; (with_reducible refine C1.out.mono ?_); rintro e w4 ⟨rfl, m4⟩; have Z4 := Lib.hid (Z0.out.drew.trans m4); clear m4)
          | (go_at_call 27; refine (promised_calls w4 A p g f (HA3.out.mod Z4.out)).mono ?_; rintro e w' ⟨rfl, rfl⟩)
          | (go_at_call 28; refine (votes_calls w4 A p g f (HA3.out.mod Z4.out)).mono ?_; rintro e w5 ⟨v5, rfl, ho5, m5⟩; rw [HFA.out] at ho5; have V5 := Lib.hid (row_vs ho5); have Z5 := Lib.hid (Z4.out.trans m5); clear ho5 m5)
          | (go_at_call 18; refine (theirs_calls w5 v5 _ V5.out HLN.out).mono ?_; rintro e w6 ⟨v6, rfl, ho6, m6⟩; have V6 := Lib.hid (row_vs ho6); have Z6 := Lib.hid (Z5.out.trans m6); clear ho6 m6)
          | (go_at_call 29; refine (sameV_calls w6 v6 v _ V6.out (row_vs (HR3.out.mod0 Z6.out).own) HLN.out).mono ?_; rintro e w7 ⟨rfl, m7⟩; have Z7 := Lib.hid (Z6.out.trans m7); clear m7))
      go_wp2
      go_ret
      exact ⟨rfl, (M3.out.trans Z7.out).below (Nat.le_refl _) (by simp)⟩
end Go.Proofs.YtphcoenooinmfaaDoor
