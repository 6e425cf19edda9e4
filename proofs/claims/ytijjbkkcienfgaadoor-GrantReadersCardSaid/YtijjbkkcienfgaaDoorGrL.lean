/- Blocks of a law's own beside the service's; leases, plain. No condition beyond what stands in each. -/
import Derived.Test.YtijjbkkcienfgaaDoorGrP
namespace Go.Proofs.YtijjbkkcienfgaaDoor
open Go.RowKit
set_option linter.unusedVariables false
set_option linter.unusedSimpArgs false

/-- A block of the law's own, none of the service's. -/
def KArr (w : World) (sv bT bB mB : Nat) (v : Value) (b T N : Nat) (f : Nat → Value) : Prop := Arr w b T N f ∧ b ∉ SvS sv bT bB mB v
namespace KArr
variable {w w' : World} {sv bT bB mB : Nat} {v v' : Value} {b T N : Nat} {f : Nat → Value}
theorem mod0 (h : KArr w sv bT bB mB v b T N f) (m : Mod [] w w') : KArr w' sv bT bB mB v b T N f := ⟨h.1.mod m (by simp), h.2⟩
theorem next (h : KArr w sv bT bB mB v b T N f) (hv : ∀ k, v'.ownBlock = some k → v.ownBlock = some k ∨ w.heap.size ≤ k) (m : Mod (SvS sv bT bB mB v) w w') : KArr w' sv bT bB mB v' b T N f := ⟨h.1.mod m h.2, svS_next hv h.2 h.1.lt⟩
theorem lt (h : KArr w sv bT bB mB v b T N f) : b < w.heap.size := h.1.lt
end KArr
theorem karr_ans {W w : World} {B sv bT bB mB : Nat} {v : Value} {x : GS} (h : LawS W w B sv bT bB mB v x) (e n : Int) (g r d : Value) : KArr (w.alloc (.cells #[.int .i64 e, .int .i64 n, g, r, d] 34)) sv bT bB mB v w.heap.size 34 5 (ansF e n g r d) :=
  ⟨ans_new w e n g r d, sv_ne h.s (Nat.le_refl _)⟩
theorem karr_cmd {W w : World} {B sv bT bB mB : Nat} {v : Value} {x : GS} (h : LawS W w B sv bT bB mB v x) (c : CmdT) : KArr (w.alloc (.cells c.arr 37)) sv bT bB mB v w.heap.size 37 9 c.f :=
  ⟨cmd_new w _ c, sv_ne h.s (Nat.le_refl _)⟩
theorem LawS.alloc {W w : World} {B sv bT bB mB : Nat} {v : Value} {x : GS} (h : LawS W w B sv bT bB mB v x) (o : Obj) : LawS W (w.alloc o) B sv bT bB mB v x := h.mod0 ((Mod.refl _ _).alloc o)
theorem ans_field0 (w : World) (e n : Int) (gp rp dp : Option Addr) (gn gc rn rc dn dc : Nat) : (Instr.field 34 (.agg #[.int .i64 e, .int .i64 n, .slice gp gn gc, .slice rp rn rc, .slice dp dn dc]) 0).run Tryd.prog w = .ok (.int .i64 e) w := by kernel_rfl
/-! ### leases -/
theorem lives_new (c : Int) : livesB u0 d0 c = false := by
  unfold livesB
  have h1 : deadV d0 c = false := by unfold deadV; split <;> rfl
  have h2 : untilV u0 c = -1 := by unfold untilV; split <;> rfl
  rw [h1, h2]
  rfl
/-- Nobody who has no lease gets anything. -/
theorem ask_new (c : CmdT) (hm : c.m = 1) : GS.new.ask c = (GS.new, .err (if inC8 c.c = false then 1 else if blk c.a c.b = false then 71 else 200)) := by
  unfold GS.ask
  by_cases h1 : inC8 c.c = false
  · rw [if_pos (.inl h1), if_pos h1]
  · rw [if_neg (by simp [h1, okM, hm]), if_neg h1]
    by_cases h2 : blk c.a c.b = false
    · rw [if_pos h2, if_pos h2]
    · rw [if_neg h2, if_neg h2, if_pos (show livesB GS.new.u GS.new.d c.c = false from lives_new c.c)]
theorem recover_new (c : CmdT) : GS.new.recover c = (GS.new, .err 200) := by
  have e : GS.new.recE c = 200 := by unfold GS.recE; rw [if_pos (show livesB GS.new.u GS.new.d c.c = false from lives_new c.c)]
  unfold GS.recover
  rw [if_pos (by rw [e]; decide), e]
/-- The service with one lease. -/
def oneL (c : Nat) (t : Int) : GS := { GS.new with u := upd u0 c t, s := upd s0 c 1 }
theorem renew_new {c : CmdT} (hq : c.q = 1) (hn : 0 ≤ c.n ∧ c.n ≤ 65535) (hl : 0 ≤ c.l ∧ c.l ≤ 65535) : (inC8 c.c = false → GS.new.renew c = (GS.new, .err 1)) ∧ (inC8 c.c = true → GS.new.renew c = (oneL c.c.toNat (c.n + c.l), ⟨0, c.n + c.l, [], [], []⟩)) := by
  constructor
  · intro h
    have hc : inC c.c = false := h
    have e : renewE s0 d0 c.c c.q c.n c.l = 1 := by unfold renewE; rw [if_pos hc]
    unfold GS.renew
    show ({ GS.new with u := renewU u0 s0 d0 c.c c.q c.n c.l, s := renewS s0 d0 c.c c.q c.n c.l }, (⟨renewE s0 d0 c.c c.q c.n c.l, renewV u0 s0 d0 c.c c.q c.n c.l, [], [], []⟩ : GA)) = _
    unfold renewU renewS renewV
    rw [e]
    rfl
  · intro h
    have hc : inC c.c = true := h
    have hcc : 0 ≤ c.c ∧ c.c < 8 := inC8_iff.1 h
    have e : renewE s0 d0 c.c c.q c.n c.l = 0 := by
      unfold renewE
      rw [hq, if_neg (by simp [hc]), if_neg (by decide), if_neg (by decide), if_neg (by simp [okT]; omega), if_neg (by simp [okT]; omega), if_neg (by simp [d0]), if_neg (by show ¬ (1 : Int) ≤ 0; omega), if_neg (by omega)]
    have hmx : max (u0 c.c.toNat) (c.n + c.l) = c.n + c.l := by show max (-1 : Int) _ = _; omega
    unfold GS.renew
    show ({ GS.new with u := renewU u0 s0 d0 c.c c.q c.n c.l, s := renewS s0 d0 c.c c.q c.n c.l }, (⟨renewE s0 d0 c.c c.q c.n c.l, renewV u0 s0 d0 c.c c.q c.n c.l, [], [], []⟩ : GA)) = _
    unfold renewU renewS renewV
    rw [e, if_pos rfl, if_pos rfl, if_pos rfl, hmx, hq]
    rfl
theorem sw_one {c : Nat} (hc : c < 8) {t now : Int} (ht : 0 ≤ t) (i : Nat) : swB (upd u0 c t) d0 now i = (decide (i = c) && decide (t < now)) := by
  unfold swB upd d0
  by_cases e : i = c
  · rw [if_pos e]
    simp [e, ht]
  · rw [if_neg e]
    simp [u0, e]
theorem sweep_one {c : Nat} (hc : c < 8) {t : Int} (ht : 0 ≤ t) (k : CmdT) : (¬ t < k.n → (oneL c t).sweep k = (oneL c t, ⟨0, 0, [], [], []⟩)) ∧ (t < k.n → ∃ x, (oneL c t).sweep k = (x, ⟨0, 0, [], [], [c]⟩) ∧ x.u = upd u0 c t ∧ x.d = swD (upd u0 c t) d0 k.n 8 ∧ x.wl = []) := by
  constructor
  · intro h
    have hb : ∀ i, swB (upd u0 c t) d0 k.n i = false := fun i => by rw [sw_one hc ht]; simp [h]
    have e1 : swD (upd u0 c t) d0 k.n 8 = d0 := by funext i; unfold swD; rw [hb]; simp
    have e2 : swL (upd u0 c t) d0 k.n 8 = [] := by unfold swL; rw [List.filter_eq_nil_iff]; intro i _; rw [hb]; simp
    unfold GS.sweep
    show GS.serve { oneL c t with d := swD (upd u0 c t) d0 k.n 8, wl := [].filter _ } (swL (upd u0 c t) d0 k.n 8) = _
    rw [e1, e2]
    rfl
  · intro h
    have hb : ∀ i, swB (upd u0 c t) d0 k.n i = decide (i = c) := fun i => by rw [sw_one hc ht]; simp [h]
    have e2 : swL (upd u0 c t) d0 k.n 8 = [c] := by
      unfold swL
      rw [List.filter_congr (fun i _ => hb i)]
      match c, hc with
      | 0, _ | 1, _ | 2, _ | 3, _ | 4, _ | 5, _ | 6, _ | 7, _ => rfl
    refine ⟨GS.served { oneL c t with d := swD (upd u0 c t) d0 k.n 8, wl := [] }, ?_, rfl, rfl, rfl⟩
    unfold GS.sweep
    show GS.serve { oneL c t with d := swD (upd u0 c t) d0 k.n 8, wl := [].filter _ } (swL (upd u0 c t) d0 k.n 8) = _
    rw [e2]
    rfl
theorem ask_dead {x : GS} {c : CmdT} (h1 : inC8 c.c = true) (hm : c.m = 1) (h2 : livesB x.u x.d c.c = false) : (x.ask c).2 = .err (if blk c.a c.b = false then 71 else 200) := by
  unfold GS.ask
  rw [if_neg (by simp [h1, okM, hm])]
  by_cases h3 : blk c.a c.b = false
  · rw [if_pos h3, if_pos h3]
  · rw [if_neg h3, if_neg h3, if_pos h2]
theorem ask_bad {x : GS} {c : CmdT} (h1 : inC8 c.c = true) (hm : c.m = 1) (h3 : blk c.a c.b = false) : (x.ask c).2 = .err 71 := by
  unfold GS.ask
  rw [if_neg (by simp [h1, okM, hm]), if_pos h3]
theorem lives_one {c : Nat} (hc : c < 8) {t : Int} (ht : 0 ≤ t) : livesB (upd u0 c t) d0 (c : Int) = true := by
  unfold livesB deadV untilV
  have h : inC (c : Int) = true := by simp [inC]; omega
  simp [h, d0, upd, ht]
theorem ask_one {c : CmdT} (h1 : inC8 c.c = true) (hm : c.m = 1) (h3 : blk c.a c.b = true) {t : Int} (ht : 0 ≤ t) : ((oneL c.c.toNat t).ask c).2 = ⟨0, 1, [], [], []⟩ := by
  have hcc := inC8_iff.1 h1
  have hb : 0 ≤ c.a ∧ c.a < c.b ∧ c.b ≤ 256 := by
    simp only [blk, Bool.and_eq_true, decide_eq_true_eq] at h3
    omega
  have hl : livesB (oneL c.c.toNat t).u (oneL c.c.toNat t).d c.c = true := by
    have := lives_one (c := c.c.toNat) (by omega) ht
    rw [show ((c.c.toNat : Nat) : Int) = c.c by omega] at this
    exact this
  have hs : someL (fun _ _ => 0) (c.hold.1 : Nat) (c.hold.2.1 : Nat) (pAg (c.hold.2.2.1 : Nat) (c.hold.2.2.2 : Nat)) = [] := by
    unfold someL
    exact holds_none 8 (fun _ _ _ _ _ => rfl)
  have hf : freeT (fun _ _ => 0) c.hold [] = true := by
    unfold freeT
    rw [hs]
    rfl
  have hp := (put_first (c := c.c.toNat) (x1 := c.a.toNat) (x2 := c.b.toNat) (m := c.m.toNat) (by omega) (by omega) (by omega) (by omega)).1
  have hp : putEH (fun _ _ => 0) c.hold = 0 := hp
  unfold GS.ask
  rw [if_neg (by simp [h1, okM, hm]), if_neg (by simp [h3]), if_neg (by rw [hl]; simp), if_neg (by simp [oneL, GS.new]), if_neg (by show ¬ maxS ≤ 0; unfold maxS; omega)]
  rw [if_pos (show freeT (oneL c.c.toNat t).t c.hold (oneL c.c.toNat t).wl = true from hf), if_pos (show putEH (oneL c.c.toNat t).t c.hold = 0 from hp)]
  rfl
end Go.Proofs.YtijjbkkcienfgaaDoor
