/- When all is released, the eldest that waits is given: plain. No program in sight; no condition beyond what stands in each. -/
import Derived.Test.YtijjbkkcienfgaaDoorGrP
namespace Go.Proofs.YtijjbkkcienfgaaDoor
set_option linter.unusedVariables false
set_option linter.unusedSimpArgs false

/-- What bounds the runs and the numbers. -/
structure SCnd (n : Nat) (x : GS) : Prop where
  inv : GInv x
  bd : ∀ c k, x.t c k ≤ 2
  tu : turnsT x.t 8 + 2 * x.wl.length ≤ 2 * n
  la : x.last + x.wl.length ≤ n
theorem turnsT_setT {t : Nat → Nat → Nat} (c a b : Int) (g : Nat → Nat) : turnsT (setT t c a b g) 8 ≤ turnsT t 8 + 2 := by
  unfold setT
  split
  · exact turnsT_set t _ _ _ g 8
  · omega
theorem turnsT_putT {t : Nat → Nat → Nat} (a b c m : Int) : turnsT (putT t a b c m) 8 ≤ turnsT t 8 + 2 := by
  unfold putT
  split
  · exact turnsT_setT _ _ _ _
  · omega
theorem scnd_fold {n : Nat} (T : (Nat → Nat → Nat) → Nat) (hT : ∀ t y, T (putTH t y) ≤ T t + 2) : ∀ (l : List HoldT) (v : SrvT), T v.t + 2 * (v.left.length + l.length) ≤ 2 * n → v.last + (v.left.length + l.length) ≤ n →
    T (l.foldl srvStep v).t + 2 * (l.foldl srvStep v).left.length ≤ 2 * n ∧ (l.foldl srvStep v).last + (l.foldl srvStep v).left.length ≤ n
  | [], v, h1, h2 => by
    simp only [List.length_nil, Nat.add_zero] at h1 h2
    exact ⟨h1, h2⟩
  | y :: l, v, h1, h2 => by
    simp only [List.length_cons] at h1 h2
    refine scnd_fold T hT l (srvStep v y) ?_ ?_
    · unfold srvStep
      split
      · have := hT v.t y
        simp only
        omega
      · simp only [List.length_append, List.length_cons, List.length_nil]
        omega
    · unfold srvStep
      split
      · simp only
        omega
      · simp only [List.length_append, List.length_cons, List.length_nil]
        omega
theorem bd_fold : ∀ (l : List HoldT) (v : SrvT), (∀ c k, v.t c k ≤ 2) → ∀ c k, (l.foldl srvStep v).t c k ≤ 2
  | [], v, h => h
  | y :: l, v, h => by
    refine bd_fold l (srvStep v y) ?_
    unfold srvStep
    split
    · exact putT_bd h _ _ _ _
    · exact h
theorem scnd_serve {n : Nat} {x : GS} (h : SCnd n x) (z : List Nat) : SCnd n (x.serve z).1 := by
  obtain ⟨h1, h2⟩ := scnd_fold (fun t => turnsT t 8) (fun t y => turnsT_putT _ _ _ _) x.wl x.srv0 (n := n) (by show turnsT x.t 8 + 2 * (0 + x.wl.length) ≤ _; rw [Nat.zero_add]; exact h.tu) (by show x.last + (0 + x.wl.length) ≤ _; rw [Nat.zero_add]; exact h.la)
  exact ⟨inv_served h.inv, bd_fold x.wl x.srv0 h.bd, h1, h2⟩
theorem scnd_same {n : Nat} {x y : GS} (h : SCnd n x) (hI : GInv y) (e1 : y.t = x.t) (e2 : y.wl = x.wl) (e3 : y.last = x.last) : SCnd n y :=
  ⟨hI, by rw [e1]; exact h.bd, by rw [e1, e2]; exact h.tu, by rw [e2, e3]; exact h.la⟩
theorem scnd_set {n : Nat} {x y : GS} (h : SCnd n x) (hI : GInv y) (c a b : Int) (g : Nat → Nat) (hg : ∀ m, m ≤ 2 → g m ≤ 2) (e1 : y.t = setT x.t c a b g) (e2 : y.wl = x.wl) (e3 : y.last = x.last) : SCnd (n + 1) y :=
  ⟨hI, by rw [e1]; exact setT_bd h.bd c a b hg, by rw [e1, e2]; have := h.tu; have := turnsT_setT (t := x.t) c a b g; omega, by rw [e2, e3]; have := h.la; omega⟩
theorem scnd_up {n : Nat} {x : GS} (h : SCnd n x) : SCnd (n + 1) x := ⟨h.inv, h.bd, by have := h.tu; omega, by have := h.la; omega⟩
theorem scnd_filter {n : Nat} {x y : GS} (h : SCnd n x) (hI : GInv y) (p : HoldT → Bool) (e1 : y.t = x.t) (e2 : y.wl = x.wl.filter p) (e3 : y.last = x.last) : SCnd n y := by
  have := List.length_filter_le p x.wl
  exact ⟨hI, by rw [e1]; exact h.bd, by rw [e1, e2]; have := h.tu; omega, by rw [e2, e3]; have := h.la; omega⟩
theorem scnd_do {n : Nat} {x : GS} (h : SCnd n x) (c : CmdT) : SCnd (n + 1) (x.Do c).1 := by
  have hI := inv_do h.inv c
  have up := scnd_up h
  have tu := h.tu
  have la := h.la
  unfold GS.Do at hI ⊢
  split
  · rename_i hk
    rw [if_pos hk] at hI
    unfold GS.ask at hI ⊢
    split
    · exact up
    rename_i h1
    rw [if_neg h1] at hI
    split
    · exact up
    rename_i h1
    rw [if_neg h1] at hI
    split
    · exact up
    rename_i h1
    rw [if_neg h1] at hI
    split
    · exact up
    rename_i h1
    rw [if_neg h1] at hI
    split
    · exact up
    rename_i h1
    rw [if_neg h1] at hI
    split
    · rename_i h1
      rw [if_pos h1] at hI
      split
      · rename_i h2
        rw [if_pos h2] at hI
        refine ⟨hI, putT_bd h.bd _ _ _ _, ?_, ?_⟩
        · have := turnsT_putT (t := x.t) c.hold.1 c.hold.2.1 c.hold.2.2.1 c.hold.2.2.2
          show turnsT (putTH x.t c.hold) 8 + 2 * x.wl.length ≤ _
          unfold putTH
          omega
        · show x.last + 1 + x.wl.length ≤ n + 1
          omega
      · exact up
    · rename_i h1
      rw [if_neg h1] at hI
      split
      · exact up
      · rename_i h2
        rw [if_neg h2] at hI
        refine ⟨hI, h.bd, ?_, ?_⟩
        · show turnsT x.t 8 + 2 * (x.wl ++ [c.hold]).length ≤ _
          simp only [List.length_append, List.length_cons, List.length_nil]
          omega
        · show x.last + (x.wl ++ [c.hold]).length ≤ _
          simp only [List.length_append, List.length_cons, List.length_nil]
          omega
  clear hI
  split
  · unfold GS.release
    split
    · exact up
    · refine scnd_serve ?_ _
      exact scnd_set h (inv_same h.inv rfl rfl h.inv.by1) c.c c.a c.b (fun _ => 0) (fun m _ => by omega) rfl rfl rfl
  split
  · unfold GS.weaken
    split
    · exact up
    · refine scnd_serve ?_ _
      exact scnd_set h (inv_same h.inv rfl rfl h.inv.by1) c.c c.a c.b (fun m => min m 1) (fun m _ => by show min m 1 ≤ 2; omega) rfl rfl rfl
  split
  · exact scnd_same up (inv_same h.inv rfl rfl h.inv.by1) rfl rfl rfl
  split
  · refine scnd_serve ?_ _
    exact scnd_filter up (inv_filter h.inv _ rfl rfl rfl) _ rfl rfl rfl
  split
  · rename_i hk
    have hI := inv_do h.inv c
    unfold GS.recover
    split
    · exact up
    split
    · exact up
    · rename_i h1 h2
      refine scnd_same up ?_ rfl rfl rfl
      have := inv_do h.inv c
      unfold GS.Do GS.recover at this
      rw [if_neg (by omega), if_neg (by omega), if_neg (by omega), if_neg (by omega), if_neg (by omega), if_pos hk, if_neg h1, if_neg h2] at this
      exact this
  split
  · unfold GS.done
    split
    · exact up
    split
    · exact up
    · rename_i h1 h2
      refine scnd_serve ?_ _
      refine scnd_set h (inv_same h.inv rfl rfl (fun i hi => ?_)) c.o 0 256 (fun _ => 0) (fun m _ => by omega) rfl rfl rfl
      show -1 ≤ upd x.bb c.o.toNat (-1) i ∧ upd x.bb c.o.toNat (-1) i < 8
      unfold upd
      split
      · omega
      · exact h.inv.by1 i hi
  split
  · unfold GS.cancel
    split
    · exact up
    split
    · exact up
    · refine scnd_serve ?_ _
      exact scnd_filter up (inv_filter h.inv _ rfl rfl rfl) _ rfl rfl rfl
  · exact up
theorem bg_scnd : SCnd 4 (bg 4) := by
  have h0 : SCnd 0 GS.new := ⟨inv_new, fun _ _ => Nat.zero_le _, by rw [show GS.new.t = fun _ _ => 0 from rfl, turnsT_none]; exact Nat.le_refl _, Nat.le_refl _⟩
  exact scnd_do (scnd_do (scnd_do (scnd_do h0 _) _) _) _
theorem run_scnd {n : Nat} {x : GS} (h : SCnd n x) (f : Nat → Nat → Value) : ∀ k, SCnd (n + k) (runC x f k)
  | 0 => h
  | k + 1 => scnd_do (run_scnd h f k) _
/-! ### all is released -/
def relC (c : Nat) : CmdT := ⟨2, c, 0, 0, 0, 0, 256, 0, 0⟩
def relG (x : GS) : Nat → GS
  | 0 => x
  | k + 1 => ((relG x k).Do (relC k)).1
theorem rel_do (x : GS) {c : Nat} (hc : c < 8) : x.Do (relC c) = GS.serve { x with t := setT x.t c 0 256 (fun _ => 0) } [] := by
  have e : x.Do (relC c) = x.release (relC c) := by simp [GS.Do, relC]
  rw [e]
  unfold GS.release
  rw [if_neg (by simp [relC, inC8]; omega)]
  rfl
theorem setT_whole (t : Nat → Nat → Nat) {c : Nat} (hc : c < 8) : setT t c 0 256 (fun _ => 0) = setN t c 0 256 (fun _ => 0) := by
  have := setT_nat t c 0 256 (fun _ => 0) hc (Nat.le_refl _)
  simpa using this
theorem turns_le_zero {f : Nat → Nat} : ∀ n, (∀ k, k < n → f k = 0) → turns f n = 0
  | 0, _ => rfl
  | n + 1, h => by
    unfold turns
    rw [turns_le_zero n (fun k hk => h k (by omega)), h n (by omega)]
    have : prv f n = 0 := by
      unfold prv
      split
      · rfl
      · exact h _ (by omega)
    rw [if_pos this]
theorem turnsT_whole (t : Nat → Nat → Nat) (c : Nat) : ∀ n, turnsT (setN t c 0 256 (fun _ => 0)) n ≤ turnsT t n
  | 0 => Nat.le_refl _
  | n + 1 => by
    have ih := turnsT_whole t c n
    unfold turnsT
    by_cases e : n = c
    · subst e
      have : turns (setN t n 0 256 (fun _ => 0) n) 256 = 0 := turns_le_zero 256 (fun k hk => by unfold setN; rw [if_pos ⟨rfl, Nat.zero_le _, hk⟩])
      omega
    · have : setN t c 0 256 (fun _ => 0) n = t n := by
        funext k
        unfold setN
        rw [if_neg (by omega)]
      rw [this]
      omega
theorem scnd_rel {n : Nat} {x : GS} (h : SCnd n x) {c : Nat} (hc : c < 8) : SCnd n { x with t := setT x.t c 0 256 (fun _ => 0) } :=
  ⟨inv_same h.inv rfl rfl h.inv.by1, setT_bd h.bd _ _ _ (fun m _ => by omega), by
    have := h.tu
    have := turnsT_whole x.t c 8
    show turnsT (setT x.t c 0 256 (fun _ => 0)) 8 + 2 * x.wl.length ≤ 2 * n
    rw [setT_whole _ hc]
    omega, h.la⟩
theorem relG_scnd {n : Nat} {x : GS} (h : SCnd n x) : ∀ k, k ≤ 8 → SCnd n (relG x k)
  | 0, _ => h
  | k + 1, hk => by
    show SCnd n ((relG x k).Do (relC k)).1
    rw [rel_do _ (by omega)]
    exact scnd_serve (scnd_rel (relG_scnd h k (by omega)) (by omega)) _
/-- Client c has nothing in the way of h. -/
def NCl (t : Nat → Nat → Nat) (h : HoldT) (c : Nat) : Prop := ∀ k, h.1 ≤ k → k < h.2.1 → t c k ≠ 0 → pAg h.2.2.1 h.2.2.2 c (t c k) = false
theorem ncl_put {t : Nat → Nat → Nat} {h y : HoldT} {c : Nat} (hc : c < 8) (hb : h.2.1 ≤ 256) (hm : h.2.2.2 = 1 ∨ h.2.2.2 = 2) (hN : NCl t h c) (hy : okHold y) (hcl : clashB h y = false) : NCl (putTH t y) h c := by
  obtain ⟨ya, yb, yc, ym⟩ := y
  obtain ⟨ha, hbb, hcc, hmm⟩ := h
  obtain ⟨o1, o2, o3, o4⟩ := hy
  simp only at hb hm o1 o2 o3 o4
  intro k h1 h2 hk
  simp only at h1 h2
  have key := hN k h1 h2
  unfold putTH putT at hk ⊢
  simp only at hk ⊢
  split
  · rename_i he
    rw [if_pos he] at hk
    unfold upT at hk ⊢
    rw [setT_at t _ _ _ _ hc (by omega)] at hk ⊢
    by_cases hin : (c : Int) = ((yc : Nat) : Int) ∧ ((ya : Nat) : Int) ≤ k ∧ (k : Int) < ((yb : Nat) : Int)
    · rw [if_pos hin] at hk ⊢
      obtain ⟨i1, i2, i3⟩ := hin
      have i1 : c = yc := by omega
      subst i1
      by_cases hs : (c : Int) = (hcc : Int)
      · simp [pAg, hs]
      · have hov : max ha ya < min hbb yb := by omega
        have hcl2 := clashB_k (x := (ha, hbb, hcc, hmm)) (y := (ya, yb, c, ym)) (by simp only; omega) hov
        rw [hcl] at hcl2
        have hcl3 : ¬ (hmm = 2 ∨ ym = 2) := by
          have := hcl2.symm
          simpa using this
        have hm1 : hmm = 1 := by omega
        have ym1 : ym = 1 := by omega
        subst hm1 ym1
        have ht : t c k ≠ 2 := fun e => by
          have := key (by omega)
          simp [pAg, e] at this
          omega
        have hmx : max (t c k) (Int.toNat ((1 : Nat) : Int)) ≠ 2 := by
          have : Int.toNat ((1 : Nat) : Int) = 1 := rfl
          omega
        simp only [pAg]
        simp
        intro _
        have : Int.toNat ((1 : Nat) : Int) = 1 := rfl
        omega
    · rw [if_neg hin] at hk ⊢
      exact key hk
  · rename_i he
    rw [if_neg he] at hk
    exact key hk
theorem free_of_ncl {t : Nat → Nat → Nat} {h : HoldT} (hN : ∀ c, c < 8 → NCl t h c) (hb : h.2.1 ≤ 256) : freeT t h [] = true := by
  unfold freeT
  have : someL t h.1 h.2.1 (pAg h.2.2.1 h.2.2.2) = [] := by
    unfold someL
    rw [loZ_nat, nZ_nat _ _ hb]
    refine holds_no 8 fun c k hc h1 h2 hk => ?_
    exact hN c hc k h1 (by omega) hk
  rw [this]
  rfl
theorem put_ok_of {t : Nat → Nat → Nat} {h : HoldT} (hk : okHold h) (hf : freeT t h [] = true) (htu : turnsT t 8 + 2 ≤ 256) : putEH t h = 0 := by
  obtain ⟨o1, o2, o3, o4⟩ := hk
  unfold freeT at hf
  simp only [List.any_nil, Bool.not_false, Bool.true_and, decide_eq_true_eq] at hf
  unfold putEH putE
  rw [if_neg (by simp [inC8]; omega), if_neg (by omega), if_neg (by omega), if_neg (by omega), if_neg (by omega), if_neg (by omega), if_neg]
  have h1 := holds_turns (upT t h.1 h.2.1 h.2.2.1 h.2.2.2) 8
  have h2 := turnsT_setT (t := t) h.2.2.1 h.1 h.2.1 (fun x => max x (h.2.2.2 : Int).toNat)
  unfold listL upT at *
  omega
/-- While the eldest is not given it stays ahead of all, and nothing new stands in its way. -/
theorem head_fold {h : HoldT} (hb : h.2.1 ≤ 256) (hm : h.2.2.2 = 1 ∨ h.2.2.2 = 2) {K : Nat → Prop} (hK : ∀ c, K c → c < 8) : ∀ (l : List HoldT) (v : SrvT), (∀ y ∈ l, okHold y) → (∃ r, v.left = h :: r) → (∀ c, K c → NCl v.t h c) →
    (∃ r, (l.foldl srvStep v).left = h :: r) ∧ ∀ c, K c → NCl (l.foldl srvStep v).t h c
  | [], v, _, h1, h2 => ⟨h1, h2⟩
  | y :: l, v, ho, h1, h2 => by
    obtain ⟨r, hr⟩ := h1
    refine head_fold hb hm hK l (srvStep v y) (fun z hz => ho z (by simp [hz])) ?_ ?_
    · unfold srvStep
      split
      · exact ⟨r, hr⟩
      · exact ⟨r ++ [y], by rw [hr]; rfl⟩
    · unfold srvStep
      split
      · rename_i hok
        intro c hc
        refine ncl_put (hK c hc) hb hm (h2 c hc) (ho y (by simp)) ?_
        unfold srvOk freeT at hok
        simp only [Bool.and_eq_true] at hok
        have := hok.2.1.1
        rw [hr] at this
        simp at this
        exact this.1
      · exact h2
theorem out_fold : ∀ (l : List HoldT) (v : SrvT) (g : Nat × HoldT), g ∈ v.out → g ∈ (l.foldl srvStep v).out
  | [], v, g, h => h
  | y :: l, v, g, h => by
    refine out_fold l (srvStep v y) g ?_
    unfold srvStep
    split
    · exact List.mem_append_left _ h
    · exact h
/-- One release: the eldest is given, or it stays the eldest, and this client is not in its way. -/
theorem rel_step {n : Nat} {x : GS} (hx : SCnd n x) (hn : 2 * n + 2 ≤ 256) {h : HoldT} {r : List HoldT} (hw : x.wl = h :: r) {k : Nat} (hk : k < 8) (hN : ∀ c, c < k → NCl x.t h c) :
    (∃ g, g ∈ (x.Do (relC k)).2.g ∧ g.2 = h) ∨ (k < 7 ∧ (∃ r', (x.Do (relC k)).1.wl = h :: r') ∧ ∀ c, c < k + 1 → NCl (x.Do (relC k)).1.t h c) := by
  rw [rel_do x hk]
  have hS := scnd_rel hx hk
  have oh := hx.inv.wl h (by rw [hw]; simp)
  have hN1 : ∀ c, c < k + 1 → NCl (setT x.t k 0 256 (fun _ => 0)) h c := by
    intro c hc j h1 h2 hj
    rw [setT_at x.t _ _ _ _ (by omega) (by have := oh.2.1; omega)] at hj ⊢
    by_cases e : (c : Int) = (k : Int) ∧ (0 : Int) ≤ j ∧ (j : Int) < 256
    · rw [if_pos e] at hj
      exact absurd rfl hj
    · rw [if_neg e] at hj ⊢
      have hck : c ≠ k := fun e2 => e ⟨by omega, by omega, by have := oh.2.1; omega⟩
      exact hN c (by omega) j h1 h2 hj
  generalize hy : ({ x with t := setT x.t k 0 256 (fun _ => 0) } : GS) = y at hS
  have yw : y.wl = h :: r := by rw [← hy]; exact hw
  have yt : y.t = setT x.t k 0 256 (fun _ => 0) := by rw [← hy]
  rw [← yt] at hN1
  have hfold : y.srv = r.foldl srvStep (srvStep y.srv0 h) := by unfold GS.srv; rw [yw]; rfl
  by_cases hok : srvOk y.srv0 h = true
  · left
    refine ⟨(y.srv0.last + 1, h), ?_, rfl⟩
    show _ ∈ y.srv.out
    rw [hfold]
    refine out_fold _ _ _ ?_
    unfold srvStep
    rw [if_pos hok]
    simp
  · right
    have hst : srvStep y.srv0 h = ⟨y.srv0.t, y.srv0.last, y.srv0.left ++ [h], y.srv0.out⟩ := by unfold srvStep; rw [if_neg hok]
    have H := head_fold oh.2.1 oh.2.2.2 (K := fun c => c < k + 1) (fun c hc => by omega) r (srvStep y.srv0 h) (fun z hz => hS.inv.wl z (by rw [yw]; simp [hz])) ⟨[], by rw [hst]; rfl⟩ (by rw [hst]; exact hN1)
    refine ⟨?_, ?_, ?_⟩
    · -- at the last release nothing is in its way
      apply Classical.byContradiction
      intro h7
      have hk7 : k = 7 := by omega
      apply hok
      have hall : ∀ c, c < 8 → NCl y.srv0.t h c := fun c hc => hN1 c (by omega)
      have hf := free_of_ncl hall oh.2.1
      have htu := hS.tu
      have hla := hS.la
      rw [yw] at htu hla
      simp only [List.length_cons] at htu hla
      have hp := put_ok_of oh hf (by show turnsT y.t 8 + 2 ≤ 256; omega)
      have hl : y.last < maxS := by unfold maxS; omega
      unfold srvOk
      have hf2 : freeT y.srv0.t h y.srv0.left = true := hf
      rw [hf2, decide_eq_true hp]
      simp [GS.srv0, hl]
    · show ∃ r', y.srv.left = h :: r'
      rw [hfold]
      exact H.1
    · intro c hc
      show NCl y.srv.t h c
      rw [hfold]
      exact H.2 c hc
theorem rel_len {x : GS} {n : Nat} (hx : SCnd n x) {k : Nat} (hk : k < 8) : (x.Do (relC k)).1.wl.length + (x.Do (relC k)).2.g.length = x.wl.length := by
  rw [rel_do x hk]
  have I := srvI_srv (x := { x with t := setT x.t k 0 256 (fun _ => 0) }) hx.inv.last
  have := I.len
  show (GS.srv _).left.length + (GS.srv _).out.length = _
  have e : ({ x with t := setT x.t k 0 256 (fun _ => 0) } : GS).wl.length = x.wl.length := rfl
  omega
/-- All eight releases: the eldest is given by one of them; fewer wait then. -/
theorem rel_all {n : Nat} {x : GS} (hx : SCnd n x) (hn : 2 * n + 2 ≤ 256) {h : HoldT} {r : List HoldT} (hw : x.wl = h :: r) :
    (∃ k, k < 8 ∧ ∃ g, g ∈ ((relG x k).Do (relC k)).2.g ∧ g.2 = h) := by
  have key : ∀ k, k ≤ 8 → (∃ j, j < k ∧ ∃ g, g ∈ ((relG x j).Do (relC j)).2.g ∧ g.2 = h) ∨ (k < 8 ∧ (∃ r', (relG x k).wl = h :: r') ∧ ∀ c, c < k → NCl (relG x k).t h c) := by
    intro k
    induction k with
    | zero => exact fun _ => .inr ⟨by omega, ⟨r, hw⟩, fun c hc => absurd hc (by omega)⟩
    | succ k ih =>
      intro hk
      rcases ih (by omega) with ⟨j, hj, hg⟩ | ⟨hk8, ⟨r', hr'⟩, hN⟩
      · exact .inl ⟨j, by omega, hg⟩
      · rcases rel_step (relG_scnd hx k (by omega)) hn hr' hk8 hN with hg | ⟨h7, hr2, hN2⟩
        · exact .inl ⟨k, by omega, hg⟩
        · exact .inr ⟨by omega, hr2, hN2⟩
  rcases key 8 (Nat.le_refl _) with hg | ⟨h8, _⟩
  · exact hg
  · omega
theorem rel_mono {n : Nat} {x : GS} (hx : SCnd n x) : ∀ k, k ≤ 8 → (relG x k).wl.length ≤ x.wl.length
  | 0, _ => Nat.le_refl _
  | k + 1, hk => by
    have h1 := rel_mono hx k (by omega)
    have h2 := rel_len (relG_scnd hx k (by omega)) (k := k) (by omega)
    show ((relG x k).Do (relC k)).1.wl.length ≤ _
    omega
theorem rel_less {n : Nat} {x : GS} (hx : SCnd n x) {k : Nat} (hk : k < 8) (hg : ((relG x k).Do (relC k)).2.g ≠ []) : ∀ m, k < m → m ≤ 8 → (relG x m).wl.length < x.wl.length
  | 0, h1, _ => absurd h1 (by omega)
  | m + 1, h1, h2 => by
    have h3 := rel_len (relG_scnd hx m (by omega)) (k := m) (by omega)
    show ((relG x m).Do (relC m)).1.wl.length < _
    by_cases e : k = m
    · subst e
      have h4 := rel_mono hx k (by omega)
      have : 0 < ((relG x k).Do (relC k)).2.g.length := List.length_pos_iff.2 hg
      omega
    · have := rel_less hx hk hg m (by omega) (by omega)
      omega
/-- Was the eldest given by one of the first c releases? -/
def givenB (x : GS) (h : HoldT) : Nat → Bool
  | 0 => false
  | c + 1 => givenB x h c || ((relG x c).Do (relC c)).2.g.any fun g => decide (g.2 = h)
theorem givenB_of {x : GS} {h : HoldT} {k : Nat} (hk : ∃ g, g ∈ ((relG x k).Do (relC k)).2.g ∧ g.2 = h) : ∀ c, k < c → givenB x h c = true
  | 0, hc => absurd hc (by omega)
  | c + 1, hc => by
    unfold givenB
    by_cases e : k = c
    · subst e
      obtain ⟨g, hg, e⟩ := hk
      have : (((relG x k).Do (relC k)).2.g.any fun g => decide (g.2 = h)) = true := List.any_eq_true.2 ⟨g, hg, by simpa using e⟩
      rw [this, Bool.or_true]
    · rw [givenB_of hk c (by omega), Bool.true_or]
theorem serves_all {n : Nat} {x : GS} (hx : SCnd n x) (hn : 2 * n + 2 ≤ 256) {h : HoldT} {r : List HoldT} (hw : x.wl = h :: r) : givenB x h 8 = true ∧ (relG x 8).wl.length < x.wl.length := by
  obtain ⟨k, hk, hg⟩ := rel_all hx hn hw
  refine ⟨givenB_of hg 8 hk, rel_less hx hk ?_ 8 hk (Nat.le_refl _)⟩
  obtain ⟨g, hg, _⟩ := hg
  exact fun e => by rw [e] at hg; cases hg
theorem any_take2 {l : List (Nat × HoldT)} {k : Nat} {y : Nat × HoldT} (p : Nat × HoldT → Bool) (h : l[k]? = some y) : (l.take (k + 1)).any p = ((l.take k).any p || p y) := by
  have hlt := (List.getElem?_eq_some_iff.1 h).1
  rw [List.take_succ_eq_append_getElem hlt, List.any_append, (List.getElem?_eq_some_iff.1 h).2]
  simp
end Go.Proofs.YtijjbkkcienfgaaDoor
