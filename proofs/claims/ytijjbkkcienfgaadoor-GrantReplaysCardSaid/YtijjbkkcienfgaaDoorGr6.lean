/- The service of locks, plain: what it has, what it answers, step by step. No program in sight; no condition beyond what stands in each. What every command keeps of the service, plain. No condition beyond what stands in each. -/
import Derived.Test.YtijjbkkcienfgaaDoorGr5
namespace Go.Proofs.YtijjbkkcienfgaaDoor
set_option linter.unusedVariables false
set_option linter.unusedSimpArgs false

/-- What the service has. -/
structure GS where
  t : Nat → Nat → Nat
  u : Nat → Int
  s : Nat → Int
  d : Nat → Bool
  wl : List HoldT
  last : Nat
  bb : Nat → Int
/-- What it answers. -/
structure GA where
  e : Int
  n : Int
  g : List (Nat × HoldT)
  r : List HoldT
  z : List Nat
def GA.err (e : Int) : GA := ⟨e, 0, [], [], []⟩
def livesB (u : Nat → Int) (d : Nat → Bool) (c : Int) : Bool := !deadV d c && decide (0 ≤ untilV u c)
def freeT (t : Nat → Nat → Nat) (h : HoldT) (l : List HoldT) : Bool := !(l.any fun o => clashB o h) && decide ((someL t h.1 h.2.1 (pAg h.2.2.1 h.2.2.2)).length = 0)
def putEH (t : Nat → Nat → Nat) (h : HoldT) : Int := putE t h.1 h.2.1 h.2.2.1 h.2.2.2
def putTH (t : Nat → Nat → Nat) (h : HoldT) : Nat → Nat → Nat := putT t h.1 h.2.1 h.2.2.1 h.2.2.2
def maxS : Nat := 1099511627776
structure SrvT where
  t : Nat → Nat → Nat
  last : Nat
  left : List HoldT
  out : List (Nat × HoldT)
/-- Is what waits given? -/
def srvOk (v : SrvT) (h : HoldT) : Bool := decide (v.last < maxS) && (freeT v.t h v.left && decide (putEH v.t h = 0))
def srvStep (v : SrvT) (h : HoldT) : SrvT :=
  if srvOk v h = true then ⟨putTH v.t h, v.last + 1, v.left, v.out ++ [(v.last + 1, h)]⟩ else ⟨v.t, v.last, v.left ++ [h], v.out⟩
def GS.srv0 (x : GS) : SrvT := ⟨x.t, x.last, [], []⟩
def GS.srv (x : GS) : SrvT := x.wl.foldl srvStep x.srv0
def GS.served (x : GS) : GS := { x with t := x.srv.t, last := x.srv.last, wl := x.srv.left }
def GS.serve (x : GS) (z : List Nat) : GS × GA := (x.served, ⟨0, 0, x.srv.out, [], z⟩)
def okM (m : Int) : Bool := decide (m = 1) || decide (m = 2)
def CmdT.hold (c : CmdT) : HoldT := (c.a.toNat, c.b.toNat, c.c.toNat, c.m.toNat)
def GS.ask (x : GS) (c : CmdT) : GS × GA :=
  if inC8 c.c = false ∨ okM c.m = false then (x, .err 1)
  else if blk c.a c.b = false then (x, .err 71)
  else if livesB x.u x.d c.c = false then (x, .err 200)
  else if (x.wl.any fun o => decide ((o.2.2.1 : Int) = c.c)) = true then (x, .err 4)
  else if maxS ≤ x.last then (x, .err 6)
  else if freeT x.t c.hold x.wl = true then
    if putEH x.t c.hold = 0 then ({ x with t := putTH x.t c.hold, last := x.last + 1 }, ⟨0, x.last + 1, [], [], []⟩)
    else (x, .err (putEH x.t c.hold))
  else if 32 ≤ x.wl.length then (x, .err 2)
  else ({ x with wl := x.wl ++ [c.hold] }, ⟨170, 0, [], someL x.t c.a c.b (pAg c.c c.m), []⟩)
def GS.release (x : GS) (c : CmdT) : GS × GA :=
  if inC8 c.c = false then (x, .err 1) else GS.serve { x with t := setT x.t c.c c.a c.b (fun _ => 0) } []
def GS.weaken (x : GS) (c : CmdT) : GS × GA :=
  if inC8 c.c = false then (x, .err 1) else GS.serve { x with t := setT x.t c.c c.a c.b (fun m => min m 1) } []
def GS.renew (x : GS) (c : CmdT) : GS × GA :=
  ({ x with u := renewU x.u x.s x.d c.c c.q c.n c.l, s := renewS x.s x.d c.c c.q c.n c.l }, ⟨renewE x.s x.d c.c c.q c.n c.l, renewV x.u x.s x.d c.c c.q c.n c.l, [], [], []⟩)
def GS.sweep (x : GS) (c : CmdT) : GS × GA :=
  GS.serve { x with d := swD x.u x.d c.n 8, wl := x.wl.filter fun h => !deadV (swD x.u x.d c.n 8) h.2.2.1 } (swL x.u x.d c.n 8)
/-- May a client recover another one? -/
def GS.recE (x : GS) (c : CmdT) : Int := if livesB x.u x.d c.c = false then 200 else if deadV x.d c.o = false then 3 else 0
def GS.recover (x : GS) (c : CmdT) : GS × GA :=
  if x.recE c ≠ 0 then (x, .err (x.recE c))
  else if 0 ≤ x.bb c.o.toNat ∧ x.bb c.o.toNat ≠ c.c ∧ livesB x.u x.d (x.bb c.o.toNat) = true then (x, .err 150)
  else ({ x with bb := upd x.bb c.o.toNat c.c }, ⟨0, 0, [], (listL x.t).filter fun h => decide ((h.2.2.1 : Int) = c.o), []⟩)
def GS.done (x : GS) (c : CmdT) : GS × GA :=
  if x.recE c ≠ 0 then (x, .err (x.recE c))
  else if x.bb c.o.toNat ≠ c.c then (x, .err 150)
  else GS.serve { x with t := setT x.t c.o 0 256 (fun _ => 0), u := forgU x.u x.d c.o, d := forgD x.d c.o, bb := upd x.bb c.o.toNat (-1) } []
def GS.cancel (x : GS) (c : CmdT) : GS × GA :=
  if inC8 c.c = false then (x, .err 1)
  else if (x.wl.filter fun h => decide (¬ (h.2.2.1 : Int) = c.c)).length = x.wl.length then (x, .err 3)
  else GS.serve { x with wl := x.wl.filter fun h => decide (¬ (h.2.2.1 : Int) = c.c) } []
def GS.Do (x : GS) (c : CmdT) : GS × GA :=
  if c.k = 1 then x.ask c else if c.k = 2 then x.release c else if c.k = 3 then x.weaken c else if c.k = 4 then x.renew c
  else if c.k = 5 then x.sweep c else if c.k = 6 then x.recover c else if c.k = 7 then x.done c else if c.k = 8 then x.cancel c else (x, .err 1)
def GS.new : GS := ⟨fun _ _ => 0, u0, s0, d0, [], 0, fun _ => -1⟩

/-- A hold that may stand in the queue. -/
def okHold (h : HoldT) : Prop := h.1 < h.2.1 ∧ h.2.1 ≤ 256 ∧ h.2.2.1 < 8 ∧ (h.2.2.2 = 1 ∨ h.2.2.2 = 2)
structure GInv (x : GS) : Prop where
  last : x.last ≤ maxS
  wl : ∀ h ∈ x.wl, okHold h
  len : x.wl.length ≤ 32
  one : (x.wl.map fun h => h.2.2.1).Nodup
  by1 : ∀ i, i < 8 → -1 ≤ x.bb i ∧ x.bb i < 8
/-- What serving keeps, told of what it has gone through. -/
structure SrvI (x : GS) (done : List HoldT) (v : SrvT) : Prop where
  last : v.last = x.last + v.out.length
  most : v.last ≤ maxS
  left : v.left.Sublist done
  len : v.out.length + v.left.length = done.length
theorem srvI_step {x : GS} {done : List HoldT} {v : SrvT} (h : SrvI x done v) (y : HoldT) : SrvI x (done ++ [y]) (srvStep v y) := by
  unfold srvStep
  by_cases o : srvOk v y = true
  · rw [if_pos o]
    have o2 : v.last < maxS := by
      unfold srvOk at o
      simp only [Bool.and_eq_true, decide_eq_true_eq] at o
      exact o.1
    refine ⟨?_, ?_, ?_, ?_⟩
    · show v.last + 1 = _
      simp [h.last]
      omega
    · show v.last + 1 ≤ maxS
      omega
    · exact h.left.trans (List.sublist_append_left _ _)
    · have := h.len
      simp
      omega
  · rw [if_neg o]
    refine ⟨h.last, h.most, h.left.append (List.Sublist.refl _), ?_⟩
    have := h.len
    simp
    omega
theorem srvI_all {x : GS} (hx : x.last ≤ maxS) : ∀ (l done : List HoldT) (v : SrvT), SrvI x done v → SrvI x (done ++ l) (l.foldl srvStep v)
  | [], done, v, h => by simpa using h
  | y :: l, done, v, h => by
    have := srvI_all hx l (done ++ [y]) (srvStep v y) (srvI_step h y)
    simpa using this
theorem srvI_srv {x : GS} (hx : x.last ≤ maxS) : SrvI x x.wl x.srv := by
  have := srvI_all hx x.wl [] x.srv0 ⟨rfl, hx, List.Sublist.refl _, rfl⟩
  simpa [GS.srv] using this
theorem inv_served {x : GS} (h : GInv x) : GInv x.served := by
  have I := srvI_srv h.last
  have hl := I.left
  refine ⟨I.most, fun y hy => h.wl y (hl.subset hy), ?_, ?_, h.by1⟩
  · exact Nat.le_trans hl.length_le h.len
  · exact List.Nodup.sublist (hl.map _) h.one
theorem inv_new : GInv GS.new where
  last := Nat.zero_le _
  wl := fun h hh => absurd hh (by simp [GS.new])
  len := Nat.zero_le _
  one := List.nodup_nil
  by1 := fun i hi => ⟨Int.le_refl _, show (-1 : Int) < 8 by omega⟩
theorem inv_filter {x : GS} (h : GInv x) (p : HoldT → Bool) {y : GS} (h1 : y.wl = x.wl.filter p) (h2 : y.last = x.last) (h3 : y.bb = x.bb) : GInv y := by
  have hs : y.wl.Sublist x.wl := by rw [h1]; exact List.filter_sublist
  refine ⟨by rw [h2]; exact h.last, fun z hz => h.wl z (hs.subset hz), Nat.le_trans hs.length_le h.len, List.Nodup.sublist (hs.map _) h.one, by rw [h3]; exact h.by1⟩
theorem inv_same {x : GS} (h : GInv x) {y : GS} (h1 : y.wl = x.wl) (h2 : y.last = x.last) (h3 : ∀ i, i < 8 → -1 ≤ y.bb i ∧ y.bb i < 8) : GInv y := by
  refine ⟨by rw [h2]; exact h.last, by rw [h1]; exact h.wl, by rw [h1]; exact h.len, by rw [h1]; exact h.one, h3⟩
set_option linter.unusedVariables false
set_option linter.unusedSimpArgs false

theorem inC8_iff {c : Int} : inC8 c = true ↔ 0 ≤ c ∧ c < 8 := by simp [inC8]
theorem livesB_in {u : Nat → Int} {d : Nat → Bool} {c : Int} (h : livesB u d c = true) : inC c = true := by
  unfold livesB at h
  simp only [Bool.and_eq_true, decide_eq_true_eq] at h
  have h2 := h.2
  unfold untilV at h2
  by_cases e : inC c = true
  · exact e
  · rw [if_pos (by simpa using e)] at h2
    omega
theorem livesB_lt {u : Nat → Int} {d : Nat → Bool} {c : Int} (h : livesB u d c = true) : 0 ≤ c ∧ c < 8 := by
  have := livesB_in h
  simpa [inC] using this
theorem deadV_lt {d : Nat → Bool} {c : Int} (h : deadV d c = true) : 0 ≤ c ∧ c < 8 := by
  unfold deadV at h
  by_cases e : inC c = true
  · simpa [inC] using e
  · rw [if_pos (by simpa using e)] at h
    cases h
theorem inv_ask {x : GS} (h : GInv x) (c : CmdT) : GInv (x.ask c).1 := by
  unfold GS.ask
  split
  · exact h
  rename_i h1
  split
  · exact h
  rename_i h2
  split
  · exact h
  split
  · exact h
  rename_i h4
  split
  · exact h
  rename_i h5
  split
  · split
    · exact ⟨by show x.last + 1 ≤ maxS; omega, h.wl, h.len, h.one, h.by1⟩
    · exact h
  · split
    · exact h
    rename_i h7
    have hc : 0 ≤ c.c ∧ c.c < 8 := by
      have : inC8 c.c = true := by
        cases e : inC8 c.c
        · exact absurd (.inl e) h1
        · rfl
      exact inC8_iff.mp this
    have hm : c.m = 1 ∨ c.m = 2 := by
      have : okM c.m = true := by
        cases e : okM c.m
        · exact absurd (.inr e) h1
        · rfl
      simpa [okM] using this
    have hb : 0 ≤ c.a ∧ c.a < c.b ∧ c.b ≤ 256 := by
      have : blk c.a c.b = true := by simpa using h2
      simp only [blk, Bool.and_eq_true, decide_eq_true_eq] at this
      omega
    have ok : okHold c.hold := by
      refine ⟨?_, ?_, ?_, ?_⟩
      · show c.a.toNat < c.b.toNat
        omega
      · show c.b.toNat ≤ 256
        omega
      · show c.c.toNat < 8
        omega
      · show c.m.toNat = 1 ∨ c.m.toNat = 2
        omega
    refine ⟨h.last, ?_, ?_, ?_, h.by1⟩
    · intro z hz
      rcases List.mem_append.mp hz with hz | hz
      · exact h.wl z hz
      · rw [List.mem_singleton.mp hz]
        exact ok
    · show (x.wl ++ [c.hold]).length ≤ 32
      simp
      omega
    · show ((x.wl ++ [c.hold]).map fun h => h.2.2.1).Nodup
      rw [List.map_append, List.nodup_append]
      refine ⟨h.one, by simp, ?_⟩
      intro a ha b hb2 e
      obtain ⟨o, ho, rfl⟩ := List.mem_map.mp ha
      have : b = c.c.toNat := by simpa [CmdT.hold] using hb2
      subst this
      apply h4
      rw [List.any_eq_true]
      exact ⟨o, ho, by simp only [decide_eq_true_eq]; omega⟩
theorem inv_serve {x : GS} (h : GInv x) (z : List Nat) : GInv (x.serve z).1 := inv_served h
theorem inv_do {x : GS} (h : GInv x) (c : CmdT) : GInv (x.Do c).1 := by
  unfold GS.Do
  split
  · exact inv_ask h c
  split
  · unfold GS.release
    split
    · exact h
    · (refine inv_serve ?_ _; exact inv_same h rfl rfl h.by1)
  split
  · unfold GS.weaken
    split
    · exact h
    · (refine inv_serve ?_ _; exact inv_same h rfl rfl h.by1)
  split
  · exact inv_same h rfl rfl h.by1
  split
  · (refine inv_serve ?_ _; exact inv_filter h _ rfl rfl rfl)
  split
  · unfold GS.recover
    split
    · exact h
    split
    · exact h
    · rename_i h1 h2
      refine inv_same h rfl rfl fun i hi => ?_
      show -1 ≤ upd x.bb c.o.toNat c.c i ∧ upd x.bb c.o.toNat c.c i < 8
      unfold upd
      split
      · have hl : livesB x.u x.d c.c = true := by
          cases e : livesB x.u x.d c.c
          · simp [GS.recE, e] at h1
          · rfl
        have := livesB_lt hl
        omega
      · exact h.by1 i hi
  split
  · unfold GS.done
    split
    · exact h
    split
    · exact h
    · refine inv_serve ?_ _
      refine inv_same h rfl rfl fun i hi => ?_
      show -1 ≤ upd x.bb c.o.toNat (-1) i ∧ upd x.bb c.o.toNat (-1) i < 8
      unfold upd
      split
      · omega
      · exact h.by1 i hi
  split
  · unfold GS.cancel
    split
    · exact h
    split
    · exact h
    · (refine inv_serve ?_ _; exact inv_filter h _ rfl rfl rfl)
  · exact h
end Go.Proofs.YtijjbkkcienfgaaDoor
