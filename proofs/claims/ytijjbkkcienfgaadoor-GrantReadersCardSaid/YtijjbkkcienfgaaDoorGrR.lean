/- Readers of one range, and one that asks to write it: plain. No program in sight; no condition beyond what stands in each. -/
import Derived.Test.YtijjbkkcienfgaaDoorGrL
namespace Go.Proofs.YtijjbkkcienfgaaDoor
set_option linter.unusedVariables false
set_option linter.unusedSimpArgs false

/-- A table in which each client has one mode on [a, b), nothing elsewhere. -/
def tC (a b : Nat) (m : Nat → Nat) : Nat → Nat → Nat := fun c k => if a ≤ k ∧ k < b then m c else 0
theorem tC_zero (a b : Nat) : tC a b (fun _ => 0) = fun _ _ => 0 := by
  funext c k
  unfold tC
  split <;> rfl
theorem row_tC {a b : Nat} (hab : a < b) (hb : b ≤ 256) (m : Nat → Nat) (c : Nat) : runsL (tC a b m c) 0 256 = if m c = 0 then [] else [(a, b, m c)] := by
  by_cases h : m c = 0
  · rw [if_pos h]
    exact runs_none (fun k _ _ => by unfold tC; rw [h]; split <;> rfl)
  · rw [if_neg h]
    exact runs_one hab hb h (fun k _ => rfl)
theorem rowS_tC {a b : Nat} (hab : a < b) (hb : b ≤ 256) (m : Nat → Nat) (c : Nat) : runsL (tC a b m c) a (b - a) = if m c = 0 then [] else [(a, b, m c)] := by
  by_cases h : m c = 0
  · rw [if_pos h]
    exact runs_none (fun k _ _ => by unfold tC; rw [h]; split <;> rfl)
  · rw [if_neg h]
    have := runs_piece (f := tC a b m c) (lo := a) (s := 0) (e := b - a) (v := m c) (by omega) h (.inl rfl) (fun k h1 h2 => by unfold tC; rw [if_pos (by omega)])
    rw [this, show a + (b - a) = b by omega]
    simp [runsL]
theorem list_tC {a b : Nat} (hab : a < b) (hb : b ≤ 256) (m : Nat → Nat) : ∀ N, holdsTo (tC a b m) 0 256 pAll N = (List.range N).flatMap fun c => if m c = 0 then [] else [(a, b, c, m c)]
  | 0 => rfl
  | N + 1 => by
    rw [holdsTo, list_tC hab hb m N, row_tC hab hb, List.range_succ, List.flatMap_append]
    congr 1
    by_cases h : m N = 0
    · simp [h, rowHolds]
    · simp [h, rowHolds, holdOf, pAll]
theorem some_tC {a b : Nat} (hab : a < b) (hb : b ≤ 256) (m : Nat → Nat) (p : Nat → Nat → Bool) : ∀ N, holdsTo (tC a b m) a (b - a) p N = (List.range N).flatMap fun c => if m c = 0 ∨ p c (m c) = false then [] else [(a, b, c, m c)]
  | 0 => rfl
  | N + 1 => by
    rw [holdsTo, some_tC hab hb m p N, rowS_tC hab hb, List.range_succ, List.flatMap_append]
    congr 1
    by_cases h : m N = 0
    · simp [h, rowHolds]
    · by_cases h2 : p N (m N) = true
      · simp [h, rowHolds, holdOf, h2]
      · simp [h, rowHolds, holdOf, h2]
theorem someL_tC {a b : Nat} (hab : a < b) (hb : b ≤ 256) (m : Nat → Nat) (p : Nat → Nat → Bool) : someL (tC a b m) a b p = (List.range 8).flatMap fun c => if m c = 0 ∨ p c (m c) = false then [] else [(a, b, c, m c)] := by
  unfold someL
  rw [loZ_nat, nZ_nat _ _ hb]
  exact some_tC hab hb m p 8
theorem set_tC {a b : Nat} (hb : b ≤ 256) (m : Nat → Nat) (c : Nat) (hc : c < 8) (g : Nat → Nat) : setT (tC a b m) c a b g = tC a b (fun d => if d = c then g (m d) else m d) := by
  rw [setT_nat _ _ _ _ _ hc hb]
  funext d k
  unfold setN tC
  by_cases e : a ≤ k ∧ k < b
  · rw [if_pos e, if_pos e]
    by_cases e2 : d = c
    · rw [if_pos ⟨e2, e⟩]
      exact (if_pos e2).symm
    · rw [if_neg (fun h => e2 h.1)]
      exact (if_neg e2).symm
  · rw [if_neg e, if_neg e, if_neg (fun h => e h.2)]
theorem putTH_tC {a b : Nat} (hab : a < b) (hb : b ≤ 256) (m m' : Nat → Nat) (c n : Nat) (hc : c < 8) (hn : n = 1 ∨ n = 2) (hs : ((List.range 8).flatMap fun d => if m d = 0 ∨ pAg c n d (m d) = false then [] else [(a, b, d, m d)]) = [])
    (hm : (fun d => if d = c then max (m d) n else m d) = m') :
    putEH (tC a b m) (a, b, c, n) = 0 ∧ putTH (tC a b m) (a, b, c, n) = tC a b m' := by
  have h := put_of (t := tC a b m) (c := c) (x1 := a) (x2 := b) (m := n) hc hn hab hb (by rw [someL_tC hab hb]; exact hs) (t' := tC a b m') (by
    unfold upT
    rw [set_tC hb m c hc, ← hm, Int.toNat_natCast]) (by
    unfold listL
    rw [list_tC hab hb]
    rw [List.length_flatMap]
    have : ∀ N, ((List.range N).map fun d => (if m' d = 0 then [] else [(a, b, d, m' d)]).length).sum ≤ N := by
      intro N
      induction N with
      | zero => simp
      | succ N ih =>
        rw [List.range_succ, List.map_append, List.sum_append]
        have : ([N].map fun d => (if m' d = 0 then [] else [(a, b, d, m' d)]).length).sum ≤ 1 := by
          simp
          split <;> simp
        omega
    have := this 8
    omega)
  exact h
/-! ### the modes, one after another -/
def m0 : Nat → Nat := fun _ => 0
def m1 : Nat → Nat := fun c => if c = 0 then 1 else 0
def m2 : Nat → Nat := fun c => if c = 0 then 1 else if c = 1 then 1 else 0
def m3 : Nat → Nat := fun c => if c = 1 then 1 else 0
def m4 : Nat → Nat := fun c => if c = 2 then 2 else 0
def m5 : Nat → Nat := fun c => if c = 2 then 1 else 0
def m6 : Nat → Nat := fun c => if c = 2 then 1 else if c = 3 then 1 else 0
/-- The service with these holds, these that wait, and so many grants. -/
def rdS (a b : Nat) (m : Nat → Nat) (l : List HoldT) (n : Nat) : GS := ⟨tC a b m, (bg 4).u, (bg 4).s, (bg 4).d, l, n, (bg 4).bb⟩
theorem bg4_t : (bg 4).t = fun _ _ => 0 := rfl
theorem bg4_wl : (bg 4).wl = [] := rfl
theorem bg4_is (a b : Nat) : bg 4 = rdS a b m0 [] 0 := by
  unfold rdS
  rw [show tC a b m0 = fun _ _ => 0 from tC_zero a b]
  rfl
theorem bg4_lives (c : Nat) (hc : c < 4) : livesB (bg 4).u (bg 4).d (c : Int) = true := by
  match c, hc with
  | 0, _ => decide +kernel
  | 1, _ => decide +kernel
  | 2, _ => decide +kernel
  | 3, _ => decide +kernel
theorem rel_of (x : GS) (c : CmdT) (hk : c.k = 2) (hc : inC8 c.c = true) (t' : Nat → Nat → Nat) (l : List HoldT) (n : Nat) (v : SrvT) (ht : setT x.t c.c c.a c.b (fun _ => 0) = t') (hl : x.wl = l) (hn : x.last = n) (hv : l.foldl srvStep ⟨t', n, [], []⟩ = v) :
    x.Do c = (⟨v.t, x.u, x.s, x.d, v.left, v.last, x.bb⟩, ⟨0, 0, v.out, [], []⟩) := by
  have e0 : x.Do c = x.release c := by simp [GS.Do, hk]
  rw [e0]
  unfold GS.release
  rw [if_neg (by simp [hc]), ht]
  subst hl hn
  unfold GS.serve GS.served GS.srv GS.srv0
  simp only
  rw [hv]
theorem weak_of (x : GS) (c : CmdT) (hk : c.k = 3) (hc : inC8 c.c = true) (t' : Nat → Nat → Nat) (l : List HoldT) (n : Nat) (v : SrvT) (ht : setT x.t c.c c.a c.b (fun m => min m 1) = t') (hl : x.wl = l) (hn : x.last = n) (hv : l.foldl srvStep ⟨t', n, [], []⟩ = v) :
    x.Do c = (⟨v.t, x.u, x.s, x.d, v.left, v.last, x.bb⟩, ⟨0, 0, v.out, [], []⟩) := by
  have e0 : x.Do c = x.weaken c := by simp [GS.Do, hk]
  rw [e0]
  unfold GS.weaken
  rw [if_neg (by simp [hc]), ht]
  subst hl hn
  unfold GS.serve GS.served GS.srv GS.srv0
  simp only
  rw [hv]
section
variable {a b : Nat} (hab : a < b) (hb : b ≤ 256)
include hab hb
theorem blk_ab : blk (a : Int) (b : Int) = true := by simp [blk]; omega
/-- One that asks, and gets. -/
theorem ask_gets (m m' : Nat → Nat) (c n k : Nat) (hc : c < 4) (hn : n = 1 ∨ n = 2) (hk : k ≤ 100) (hs : ((List.range 8).flatMap fun d => if m d = 0 ∨ pAg c n d (m d) = false then [] else [(a, b, d, m d)]) = []) (hm : (fun d => if d = c then max (m d) n else m d) = m') :
    (rdS a b m [] k).Do ⟨1, c, 0, 0, 0, a, b, n, 0⟩ = (rdS a b m' [] (k + 1), ⟨0, (k : Int) + 1, [], [], []⟩) := by
  have e0 : (rdS a b m [] k).Do ⟨1, c, 0, 0, 0, a, b, n, 0⟩ = (rdS a b m [] k).ask ⟨1, c, 0, 0, 0, a, b, n, 0⟩ := by simp only [GS.Do, if_true]
  rw [e0]
  obtain ⟨hp, ht⟩ := putTH_tC hab hb m m' c n (by omega) hn hs hm
  have hh : CmdT.hold ⟨1, c, 0, 0, 0, a, b, n, 0⟩ = (a, b, c, n) := by simp [CmdT.hold]
  have hf : freeT (tC a b m) (a, b, c, n) [] = true := by
    unfold freeT
    rw [someL_tC hab hb, hs]
    rfl
  unfold GS.ask
  rw [if_neg (by simp [inC8, okM]; omega), if_neg (by simp [blk_ab hab hb]), if_neg (by show ¬ livesB (bg 4).u (bg 4).d (c : Int) = false; rw [bg4_lives c hc]; simp), if_neg (by simp [rdS]), if_neg (by show ¬ maxS ≤ k; unfold maxS; omega), hh]
  rw [if_pos (show freeT (rdS a b m [] k).t (a, b, c, n) (rdS a b m [] k).wl = true from hf), if_pos (show putEH (rdS a b m [] k).t (a, b, c, n) = 0 from hp)]
  have : putTH (rdS a b m [] k).t (a, b, c, n) = tC a b m' := ht
  rw [this]
  rfl
/-- One that asks, and waits. -/
theorem ask_waits (m : Nat → Nat) (l : List HoldT) (c n k : Nat) (hc : c < 4) (hn : n = 1 ∨ n = 2) (hk : k ≤ 100) (hl : l.length < 32) (hw : (l.any fun o => decide ((o.2.2.1 : Int) = c)) = false) (hf : freeT (tC a b m) (a, b, c, n) l = false) :
    (rdS a b m l k).Do ⟨1, c, 0, 0, 0, a, b, n, 0⟩ = (rdS a b m (l ++ [(a, b, c, n)]) k, ⟨170, 0, [], (List.range 8).flatMap fun d => if m d = 0 ∨ pAg c n d (m d) = false then [] else [(a, b, d, m d)], []⟩) := by
  have e0 : (rdS a b m l k).Do ⟨1, c, 0, 0, 0, a, b, n, 0⟩ = (rdS a b m l k).ask ⟨1, c, 0, 0, 0, a, b, n, 0⟩ := by simp only [GS.Do, if_true]
  rw [e0]
  have hh : CmdT.hold ⟨1, c, 0, 0, 0, a, b, n, 0⟩ = (a, b, c, n) := by simp [CmdT.hold]
  unfold GS.ask
  rw [if_neg (by simp [inC8, okM]; omega), if_neg (by simp [blk_ab hab hb]), if_neg (by show ¬ livesB (bg 4).u (bg 4).d (c : Int) = false; rw [bg4_lives c hc]; simp), if_neg (by show ¬ (l.any fun o => decide ((o.2.2.1 : Int) = c)) = true; rw [hw]; simp), if_neg (by show ¬ maxS ≤ k; unfold maxS; omega), hh]
  rw [if_neg (show ¬ freeT (rdS a b m l k).t (a, b, c, n) (rdS a b m l k).wl = true from by show ¬ freeT (tC a b m) (a, b, c, n) l = true; rw [hf]; simp), if_neg (by show ¬ 32 ≤ l.length; omega)]
  show (rdS a b m (l ++ [(a, b, c, n)]) k, (⟨170, 0, [], someL (tC a b m) a b (pAg c n), []⟩ : GA)) = _
  rw [someL_tC hab hb]
theorem srv_step_yes (m m' : Nat → Nat) (k c n : Nat) (left : List HoldT) (out : List (Nat × HoldT)) (hc : c < 8) (hn : n = 1 ∨ n = 2) (hk : k ≤ 100) (hl : left = [])
    (hs : ((List.range 8).flatMap fun d => if m d = 0 ∨ pAg c n d (m d) = false then [] else [(a, b, d, m d)]) = []) (hm : (fun d => if d = c then max (m d) n else m d) = m') :
    srvStep ⟨tC a b m, k, left, out⟩ (a, b, c, n) = ⟨tC a b m', k + 1, left, out ++ [(k + 1, (a, b, c, n))]⟩ := by
  obtain ⟨hp, ht⟩ := putTH_tC hab hb m m' c n hc hn hs hm
  have hf : freeT (tC a b m) (a, b, c, n) left = true := by
    unfold freeT
    rw [someL_tC hab hb, hs, hl]
    rfl
  have ok : srvOk ⟨tC a b m, k, left, out⟩ (a, b, c, n) = true := by
    unfold srvOk
    simp only
    rw [hf, hp]
    have : k < maxS := by unfold maxS; omega
    simp [this]
  unfold srvStep
  rw [if_pos ok]
  simp only
  rw [ht]
omit hab hb in
theorem srv_step_no (m : Nat → Nat) (k c n : Nat) (left : List HoldT) (out : List (Nat × HoldT)) (hf : freeT (tC a b m) (a, b, c, n) left = false) :
    srvStep ⟨tC a b m, k, left, out⟩ (a, b, c, n) = ⟨tC a b m, k, left ++ [(a, b, c, n)], out⟩ := by
  have ok : srvOk ⟨tC a b m, k, left, out⟩ (a, b, c, n) = false := by
    unfold srvOk
    simp only
    rw [hf]
    simp
  unfold srvStep
  rw [if_neg (by rw [ok]; simp)]
theorem free_no (m : Nat → Nat) (c n : Nat) (l : List HoldT) (h : ((List.range 8).flatMap fun d => if m d = 0 ∨ pAg c n d (m d) = false then [] else [(a, b, d, m d)]).length ≠ 0) : freeT (tC a b m) (a, b, c, n) l = false := by
  unfold freeT
  simp only
  rw [someL_tC hab hb, decide_eq_false h, Bool.and_false]
omit hb in
theorem clash_no (m : Nat → Nat) (c n d q : Nat) (h : d ≠ c) (h2 : q = 2 ∨ n = 2) (l : List HoldT) (hl : (a, b, d, q) ∈ l) : freeT (tC a b m) (a, b, c, n) l = false := by
  have : (l.any fun o => clashB o (a, b, c, n)) = true := by
    rw [List.any_eq_true]
    refine ⟨_, hl, ?_⟩
    simp [clashB, h, hab, h2]
  unfold freeT
  rw [this]
  rfl
/-! ### the whole of it -/
theorem rd_1 : (bg 4).Do ⟨1, 0, 0, 0, 0, a, b, 1, 0⟩ = (rdS a b m1 [] 1, ⟨0, 1, [], [], []⟩) := by
  rw [bg4_is a b]
  exact ask_gets hab hb m0 m1 0 1 0 (by omega) (.inl rfl) (by omega) rfl (by funext d; unfold m0 m1; split <;> rfl)
theorem rd_2 : (rdS a b m1 [] 1).Do ⟨1, 1, 0, 0, 0, a, b, 1, 0⟩ = (rdS a b m2 [] 2, ⟨0, 2, [], [], []⟩) :=
  ask_gets hab hb m1 m2 1 1 1 (by omega) (.inl rfl) (by omega) rfl (by
    funext d
    unfold m1 m2
    by_cases e : d = 1
    · subst e; rfl
    · rw [if_neg e, if_neg e])
theorem rd_3 : (rdS a b m2 [] 2).Do ⟨1, 2, 0, 0, 0, a, b, 2, 0⟩ = (rdS a b m2 [(a, b, 2, 2)] 2, ⟨170, 0, [], [(a, b, 0, 1), (a, b, 1, 1)], []⟩) :=
  ask_waits hab hb m2 [] 2 2 2 (by omega) (.inr rfl) (by omega) (by simp) rfl (free_no hab hb _ _ _ _ (show (2 : Nat) ≠ 0 by omega))
theorem rd_4 : (rdS a b m2 [(a, b, 2, 2)] 2).Do ⟨1, 3, 0, 0, 0, a, b, 1, 0⟩ = (rdS a b m2 [(a, b, 2, 2), (a, b, 3, 1)] 2, ⟨170, 0, [], [], []⟩) :=
  ask_waits hab hb m2 [(a, b, 2, 2)] 3 1 2 (by omega) (.inl rfl) (by omega) (by simp) rfl (clash_no hab _ _ _ 2 2 (by omega) (.inl rfl) _ (by simp))
theorem rd_5 : (rdS a b m2 [(a, b, 2, 2), (a, b, 3, 1)] 2).Do ⟨2, 0, 0, 0, 0, a, b, 0, 0⟩ = (rdS a b m3 [(a, b, 2, 2), (a, b, 3, 1)] 2, ⟨0, 0, [], [], []⟩) := by
  have e1 : setT (tC a b m2) 0 a b (fun _ => 0) = tC a b m3 := by
    have := set_tC (a := a) hb m2 0 (by omega) (fun _ => 0)
    refine this.trans (congrArg _ ?_)
    funext d
    unfold m2 m3
    by_cases e : d = 0
    · subst e; rfl
    · rw [if_neg e, if_neg e]
  have hs : [(a, b, 2, 2), (a, b, 3, 1)].foldl srvStep ⟨tC a b m3, 2, [], []⟩ = ⟨tC a b m3, 2, [(a, b, 2, 2), (a, b, 3, 1)], []⟩ := by
    rw [List.foldl_cons, List.foldl_cons, List.foldl_nil]
    rw [srv_step_no m3 2 2 2 [] [] (free_no hab hb _ _ _ _ (show (1 : Nat) ≠ 0 by omega))]
    rw [srv_step_no m3 2 3 1 _ [] (clash_no hab _ _ _ 2 2 (by omega) (.inl rfl) _ (by simp))]
    rfl
  have e2 : setT (rdS a b m2 [(a, b, 2, 2), (a, b, 3, 1)] 2).t (CmdT.c ⟨2, 0, 0, 0, 0, a, b, 0, 0⟩) (CmdT.a ⟨2, 0, 0, 0, 0, a, b, 0, 0⟩) (CmdT.b ⟨2, 0, 0, 0, 0, a, b, 0, 0⟩) _ = _ := e1
  have h := rel_of (rdS a b m2 [(a, b, 2, 2), (a, b, 3, 1)] 2) ⟨2, 0, 0, 0, 0, a, b, 0, 0⟩ rfl (by simp [inC8]) _ _ _ _ e2 rfl rfl hs
  exact h
theorem rd_6 : (rdS a b m3 [(a, b, 2, 2), (a, b, 3, 1)] 2).Do ⟨2, 1, 0, 0, 0, a, b, 0, 0⟩ = (rdS a b m4 [(a, b, 3, 1)] 3, ⟨0, 0, [(3, (a, b, 2, 2))], [], []⟩) := by
  have e1 : setT (tC a b m3) 1 a b (fun _ => 0) = tC a b m0 := by
    have := set_tC (a := a) hb m3 1 (by omega) (fun _ => 0)
    refine this.trans (congrArg _ ?_)
    funext d
    unfold m3 m0
    by_cases e : d = 1
    · subst e; rfl
    · rw [if_neg e, if_neg e]
  have hs : [(a, b, 2, 2), (a, b, 3, 1)].foldl srvStep ⟨tC a b m0, 2, [], []⟩ = ⟨tC a b m4, 3, [(a, b, 3, 1)], [(3, (a, b, 2, 2))]⟩ := by
    rw [List.foldl_cons, List.foldl_cons, List.foldl_nil]
    rw [srv_step_yes hab hb m0 m4 2 2 2 [] [] (by omega) (.inr rfl) (by omega) rfl rfl (by funext d; unfold m0 m4; split <;> rfl)]
    rw [srv_step_no m4 3 3 1 [] _ (free_no hab hb _ _ _ _ (show (1 : Nat) ≠ 0 by omega))]
    rfl
  have e2 : setT (rdS a b m3 [(a, b, 2, 2), (a, b, 3, 1)] 2).t (CmdT.c ⟨2, 1, 0, 0, 0, a, b, 0, 0⟩) (CmdT.a ⟨2, 1, 0, 0, 0, a, b, 0, 0⟩) (CmdT.b ⟨2, 1, 0, 0, 0, a, b, 0, 0⟩) _ = _ := e1
  have h := rel_of (rdS a b m3 [(a, b, 2, 2), (a, b, 3, 1)] 2) ⟨2, 1, 0, 0, 0, a, b, 0, 0⟩ rfl (by simp [inC8]) _ _ _ _ e2 rfl rfl hs
  exact h
theorem rd_7 : (rdS a b m4 [(a, b, 3, 1)] 3).Do ⟨3, 2, 0, 0, 0, a, b, 0, 0⟩ = (rdS a b m6 [] 4, ⟨0, 0, [(4, (a, b, 3, 1))], [], []⟩) := by
  have e1 : setT (tC a b m4) 2 a b (fun m => min m 1) = tC a b m5 := by
    have := set_tC (a := a) hb m4 2 (by omega) (fun m => min m 1)
    refine this.trans (congrArg _ ?_)
    funext d
    unfold m4 m5
    by_cases e : d = 2
    · subst e; rfl
    · rw [if_neg e, if_neg e, if_neg e]
  have hs : [(a, b, 3, 1)].foldl srvStep ⟨tC a b m5, 3, [], []⟩ = ⟨tC a b m6, 4, [], [(4, (a, b, 3, 1))]⟩ := by
    rw [List.foldl_cons, List.foldl_nil]
    rw [srv_step_yes hab hb m5 m6 3 3 1 [] [] (by omega) (.inl rfl) (by omega) rfl rfl (by
      funext d
      unfold m5 m6
      by_cases e : d = 3
      · subst e; rfl
      · rw [if_neg e, if_neg e])]
    rfl
  have e2 : setT (rdS a b m4 [(a, b, 3, 1)] 3).t (CmdT.c ⟨3, 2, 0, 0, 0, a, b, 0, 0⟩) (CmdT.a ⟨3, 2, 0, 0, 0, a, b, 0, 0⟩) (CmdT.b ⟨3, 2, 0, 0, 0, a, b, 0, 0⟩) _ = _ := e1
  have h := weak_of (rdS a b m4 [(a, b, 3, 1)] 3) ⟨3, 2, 0, 0, 0, a, b, 0, 0⟩ rfl (by simp [inC8]) _ _ _ _ e2 rfl rfl hs
  exact h
theorem rd_list : (listL (rdS a b m6 [] 4).t).length = 2 := by
  show (listL (tC a b m6)).length = 2
  unfold listL
  rw [list_tC hab hb]
  rfl
end
end Go.Proofs.YtijjbkkcienfgaaDoor
