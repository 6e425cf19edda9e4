/- What the calls of a book of leases (package lease, and the document's) come to. No condition beyond what stands in each. -/
import Derived.Test.YtijjbkkcienfgaaDoorProg
import Derived.Test.YtijjbkkcienfgaaDoorLib
import Derived.Test.YtijjbkkcienfgaaDoorTime
import Derived.Deep.AppendLies
namespace Go.Proofs.YtijjbkkcienfgaaDoor
open Go.RowKit
set_option linter.unusedVariables false
set_option linter.unusedSimpArgs false
attribute [local go_sem ↓] Go.wp_at_zero Go.wp_at_succ

theorem bk_info_bool : (Tryd.prog.info? 4).map (fun i => (i.zero, i.size, i.bytes)) = some (some (.bool false), 1, 1) := by kernel_rfl

def inC (c : Int) : Bool := decide (0 ≤ c ∧ c < 8)

def renewE (s : Nat → Int) (d : Nat → Bool) (c seq now len : Int) : Int :=
  if inC c = false then 1 else if seq < 1 then 1 else if 1099511627776 < seq then 1 else if okT now = false then 1 else if okT len = false then 1 else
  if d c.toNat = true then 200 else if seq ≤ s c.toNat then 5 else if 1099511627776 < now + len then 6 else 0
def renewV (u s : Nat → Int) (d : Nat → Bool) (c seq now len : Int) : Int :=
  if renewE s d c seq now len = 0 then max (u c.toNat) (now + len) else 0
def renewU (u s : Nat → Int) (d : Nat → Bool) (c seq now len : Int) : Nat → Int :=
  if renewE s d c seq now len = 0 then upd u c.toNat (max (u c.toNat) (now + len)) else u
def renewS (s : Nat → Int) (d : Nat → Bool) (c seq now len : Int) : Nat → Int :=
  if renewE s d c seq now len = 0 then upd s c.toNat seq else s
def untilV (u : Nat → Int) (c : Int) : Int := if inC c = false then -1 else u c.toNat
def deadV (d : Nat → Bool) (c : Int) : Bool := if inC c = false then false else d c.toNat
def forgE (d : Nat → Bool) (c : Int) : Int := if deadV d c = true then 0 else 3
def forgU (u : Nat → Int) (d : Nat → Bool) (c : Int) : Nat → Int := if deadV d c = true then upd u c.toNat (-1) else u
def forgD (d : Nat → Bool) (c : Int) : Nat → Bool := if deadV d c = true then upd d c.toNat false else d
def swB (u : Nat → Int) (d : Nat → Bool) (now : Int) (i : Nat) : Bool := decide (0 ≤ u i) && decide (u i < now) && !d i
def swL (u : Nat → Int) (d : Nat → Bool) (now : Int) (n : Nat) : List Nat := (List.range n).filter (swB u d now)
def swD (u : Nat → Int) (d : Nat → Bool) (now : Int) (n : Nat) : Nat → Bool := fun i => if i < n ∧ swB u d now i = true then true else d i
def intsOf (l : List Nat) : List Value := l.map fun (i : Nat) => .int .i64 i

def bkF (u s : Nat → Int) (d : Nat → Bool) (j : Nat) : Value := if j % 3 = 0 then .int .i64 (u (j / 3)) else if j % 3 = 1 then .int .i64 (s (j / 3)) else .bool (d (j / 3))
/-- A book at block b. -/
structure Bk (w : World) (b : Nat) (u s : Nat → Int) (d : Nat → Bool) : Prop where
  arr : Arr w b 151 24 (bkF u s d)
  ub : ∀ i, -1 ≤ u i ∧ u i ≤ 1099511627776
namespace Bk
variable {w w' : World} {b : Nat} {u s : Nat → Int} {d : Nat → Bool}
theorem mod {S : List Nat} (h : Bk w b u s d) (m : Mod S w w') (hs : b ∉ S) : Bk w' b u s d := ⟨h.arr.mod m hs, h.ub⟩
theorem drew (h : Bk w b u s d) : Bk w.drew b u s d := ⟨h.arr.drew, h.ub⟩
theorem drewN (h : Bk w b u s d) (k : Nat) : Bk (w.drewN k) b u s d := ⟨h.arr.drewN k, h.ub⟩
theorem cu (h : Bk w b u s d) (i : Nat) (hi : i < 8) : w.cell? ⟨b, i * 3, none⟩ = some (.int .i64 (u i)) := by
  rw [h.arr.cell _ (by omega)]
  simp [bkF, show i * 3 / 3 = i by omega, show i * 3 % 3 = 0 by omega]
theorem cs (h : Bk w b u s d) (i : Nat) (hi : i < 8) : w.cell? ⟨b, i * 3 + 1, none⟩ = some (.int .i64 (s i)) := by
  rw [h.arr.cell _ (by omega)]
  simp [bkF, show (i * 3 + 1) / 3 = i by omega, show (i * 3 + 1) % 3 = 1 by omega]
theorem cd (h : Bk w b u s d) (i : Nat) (hi : i < 8) : w.cell? ⟨b, i * 3 + 2, none⟩ = some (.bool (d i)) := by
  rw [h.arr.cell _ (by omega)]
  simp [bkF, show (i * 3 + 2) / 3 = i by omega, show (i * 3 + 2) % 3 = 2 by omega]
theorem setU (h : Bk w b u s d) (i : Nat) (v : Int) (hv : -1 ≤ v ∧ v ≤ 1099511627776) : Bk (w.setCell ⟨b, i * 3, none⟩ (.int .i64 v)) b (upd u i v) s d := by
  refine ⟨(h.arr.set (i * 3) (.int .i64 v)).congr fun j hj => ?_, fun j => ?_⟩
  · by_cases e : j = i * 3
    · subst e; simp [bkF, upd, show i * 3 / 3 = i by omega, show i * 3 % 3 = 0 by omega]
    · by_cases e3 : j % 3 = 0
      · have : ¬ (j / 3 = i) := by omega
        simp [e, bkF, upd, e3, this]
      · simp [e, bkF, e3]
  · unfold upd
    have := h.ub j
    split
    · exact hv
    · exact this
theorem setS (h : Bk w b u s d) (i : Nat) (v : Int) : Bk (w.setCell ⟨b, i * 3 + 1, none⟩ (.int .i64 v)) b u (upd s i v) d := by
  refine ⟨(h.arr.set (i * 3 + 1) (.int .i64 v)).congr fun j hj => ?_, h.ub⟩
  by_cases e : j = i * 3 + 1
  · subst e; simp [bkF, upd, show (i * 3 + 1) / 3 = i by omega, show (i * 3 + 1) % 3 = 1 by omega]
  · by_cases e3 : j % 3 = 1
    · have : ¬ (j / 3 = i) := by omega
      simp [e, bkF, upd, e3, this]
    · simp [e, bkF, e3]
theorem setD (h : Bk w b u s d) (i : Nat) (v : Bool) : Bk (w.setCell ⟨b, i * 3 + 2, none⟩ (.bool v)) b u s (upd d i v) := by
  refine ⟨(h.arr.set (i * 3 + 2) (.bool v)).congr fun j hj => ?_, h.ub⟩
  by_cases e : j = i * 3 + 2
  · subst e; simp [bkF, upd, show (i * 3 + 2) / 3 = i by omega, show (i * 3 + 2) % 3 = 2 by omega]
  · by_cases e3 : j % 3 = 0
    · simp [e, bkF, e3]
    · by_cases e4 : j % 3 = 1
      · simp [e, bkF, e4]
      · have : ¬ (j / 3 = i) := by omega
        simp [e, bkF, upd, e3, e4, this]
end Bk

theorem inC_nat {c : Int} (h : inC c = true) : ∃ k : Nat, c = k ∧ k < 8 := by
  simp [inC] at h
  exact ⟨c.toNat, by omega, by omega⟩

set_option maxHeartbeats 400000 in
theorem bkOf_in (w : World) (b k : Nat) (hk : k < 8) :
    Calls Tryd.prog 37 #[.pointer (some ⟨b, 0, none⟩), .int .i64 k] w fun e w' => e = .returned (.pointer (some ⟨b, k * 3, none⟩)) ∧ w = w' := by
  have h0 : decide ((k : Int) < 0) = false := by simp
  have h1 : (k : Int) < 8 := by omega
  go_enter Tryd.func37, Tryd.ntmps37
  go_wp2
  go_ret
  exact ⟨by simp, rfl⟩
theorem bkOf_out (w : World) (b : Nat) (c : Int) (hc : inC c = false) :
    Calls Tryd.prog 37 #[.pointer (some ⟨b, 0, none⟩), .int .i64 c] w fun e w' => e = .returned (.pointer none) ∧ w = w' := by
  simp [inC] at hc
  by_cases h0 : c < 0
  · go_enter Tryd.func37, Tryd.ntmps37
    go_wp2
    go_ret
    exact ⟨rfl, rfl⟩
  · have h1 : 8 ≤ c := by omega
    have hd : decide (c < 0) = false := by simpa using h0
    go_enter Tryd.func37, Tryd.ntmps37
    go_wp2
    go_ret
    exact ⟨rfl, rfl⟩

theorem bkUntil_calls (w : World) (b : Nat) (u s : Nat → Int) (d : Nat → Bool) (c : Int) (h : Bk w b u s d) :
    Calls Tryd.prog 17 #[.pointer (some ⟨b, 0, none⟩), .int .i64 c] w fun e w' => e = .returned (.int .i64 (untilV u c)) ∧ w = w' := by
  by_cases hc : inC c = false
  · have E := Lib.hid (show untilV u c = -1 by simp [untilV, hc])
    go_enter Tryd.func17, Tryd.ntmps17
    go_wp2_with (go_at_call 37; refine (bkOf_out _ _ _ hc).mono ?_; rintro e w' ⟨rfl, rfl⟩)
    go_ret
    exact ⟨by rw [E.out]; rfl, rfl⟩
  · have hc' : inC c = true := by simpa using hc
    have E := Lib.hid (show untilV u c = u c.toNat by simp [untilV, hc'])
    obtain ⟨k, rfl, hk⟩ := inC_nat hc'
    rw [Int.toNat_natCast] at E
    have cu := h.cu k hk
    clear hc hc'
    go_enter Tryd.func17, Tryd.ntmps17
    go_wp2_with (go_at_call 37; refine (bkOf_in _ _ _ hk).mono ?_; rintro e w' ⟨rfl, rfl⟩)
    go_ret
    exact ⟨by rw [E.out]; rfl, rfl⟩

theorem bkDead_calls (w : World) (b : Nat) (u s : Nat → Int) (d : Nat → Bool) (c : Int) (h : Bk w b u s d) :
    Calls Tryd.prog 15 #[.pointer (some ⟨b, 0, none⟩), .int .i64 c] w fun e w' => e = .returned (.bool (deadV d c)) ∧ w = w' := by
  by_cases hc : inC c = false
  · have E := Lib.hid (show deadV d c = false by simp [deadV, hc])
    go_enter Tryd.func15, Tryd.ntmps15
    go_wp2_with (go_at_call 37; refine (bkOf_out _ _ _ hc).mono ?_; rintro e w' ⟨rfl, rfl⟩)
    go_ret
    exact ⟨by rw [E.out]; rfl, rfl⟩
  · have hc' : inC c = true := by simpa using hc
    have E := Lib.hid (show deadV d c = d c.toNat by simp [deadV, hc'])
    obtain ⟨k, rfl, hk⟩ := inC_nat hc'
    rw [Int.toNat_natCast] at E
    have cd := h.cd k hk
    clear hc hc'
    go_enter Tryd.func15, Tryd.ntmps15
    go_wp2_with (go_at_call 37; refine (bkOf_in _ _ _ hk).mono ?_; rintro e w' ⟨rfl, rfl⟩)
    go_ret
    exact ⟨by rw [E.out]; rfl, rfl⟩

set_option maxHeartbeats 400000 in
theorem bkForgive_calls (w : World) (b : Nat) (u s : Nat → Int) (d : Nat → Bool) (c : Int) (h : Bk w b u s d) :
    Calls Tryd.prog 129 #[.pointer (some ⟨b, 0, none⟩), .int .i64 c] w fun e w' => e = .returned (.int .i64 (forgE d c)) ∧ Bk w' b (forgU u d c) s (forgD d c) ∧ Mod [b] w w' := by
  by_cases hc : inC c = false
  · have hd : deadV d c = false := by simp [deadV, hc]
    have E := Lib.hid (show forgE d c = 3 by simp [forgE, hd])
    have E2 := Lib.hid (show Bk w b (forgU u d c) s (forgD d c) by simpa [forgU, forgD, hd] using h)
    clear hd
    go_enter Tryd.func129, Tryd.ntmps129
    go_wp2_with (go_at_call 37; refine (bkOf_out _ _ _ hc).mono ?_; rintro e w' ⟨rfl, rfl⟩)
    go_ret
    exact ⟨by rw [E.out]; rfl, E2.out, Mod.refl _ _⟩
  · have hc' : inC c = true := by simpa using hc
    obtain ⟨k, rfl, hk⟩ := inC_nat hc'
    have cd := h.cd k hk
    have cu := h.cu k hk
    have f1 := h.arr.free (k * 3)
    have f2 := h.arr.free (k * 3 + 2)
    by_cases hdk : d k = true
    · have hd : deadV d k = true := by simp [deadV, hc', hdk]
      have E := Lib.hid (show forgE d k = 0 by simp [forgE, hd])
      have E2 := Lib.hid (show Bk ((w.setCell ⟨b, k * 3 + 2, none⟩ (.bool false)).setCell ⟨b, k * 3, none⟩ (.int .i64 (-1))) b (forgU u d k) s (forgD d k) by
        simpa [forgU, forgD, hd] using (h.setD k false).setU k (-1) (by omega))
      rw [hdk] at cd
      clear hd hc hc' hdk
      go_enter Tryd.func129, Tryd.ntmps129
      go_wp2_with (go_at_call 37; refine (bkOf_in _ _ _ hk).mono ?_; rintro e w' ⟨rfl, rfl⟩)
      go_ret
      exact ⟨by rw [E.out]; rfl, E2.out, ((Mod.refl _ _).setCell (by simp) _).setCell (by simp) _⟩
    · have hdk' : d k = false := by simpa using hdk
      have hd : deadV d k = false := by simp [deadV, hc', hdk']
      have E := Lib.hid (show forgE d k = 3 by simp [forgE, hd])
      have E2 := Lib.hid (show Bk w b (forgU u d k) s (forgD d k) by simpa [forgU, forgD, hd] using h)
      rw [hdk'] at cd
      clear hd hc hc' hdk hdk'
      go_enter Tryd.func129, Tryd.ntmps129
      go_wp2_with (go_at_call 37; refine (bkOf_in _ _ _ hk).mono ?_; rintro e w' ⟨rfl, rfl⟩)
      go_ret
      exact ⟨by rw [E.out]; rfl, E2.out, Mod.refl _ _⟩

/-- What Renew says, and leaves. -/
def RenewPost (w : World) (b : Nat) (u s : Nat → Int) (d : Nat → Bool) (c seq now len : Int) (e : Ending) (w' : World) : Prop :=
  e = .returned (.tuple #[.int .i64 (renewV u s d c seq now len), .int .i64 (renewE s d c seq now len)]) ∧ Bk w' b (renewU u s d c seq now len) (renewS s d c seq now len) d ∧ Mod [b] w w'
theorem renew_fail {w w' : World} {b : Nat} {u s : Nat → Int} {d : Nat → Bool} {c seq now len x : Int} (h : Bk w b u s d) (hx : renewE s d c seq now len = x) (h0 : x ≠ 0) (m : Mod [] w w') :
    RenewPost w b u s d c seq now len (.returned (.tuple #[.int .i64 0, .int .i64 x])) w' := by
  have hne : renewE s d c seq now len ≠ 0 := by rw [hx]; exact h0
  refine ⟨by rw [hx]; simp only [renewV, if_neg hne], ?_, m.nil⟩
  simp only [renewU, renewS, if_neg hne]
  exact h.mod m (by simp)

set_option maxHeartbeats 1000000 in
theorem bkRenew_calls (w : World) (b : Nat) (u s : Nat → Int) (d : Nat → Bool) (c seq now len : Int) (h : Bk w b u s d) :
    Calls Tryd.prog 122 #[.pointer (some ⟨b, 0, none⟩), .int .i64 c, .int .i64 seq, .int .i64 now, .int .i64 len] w (RenewPost w b u s d c seq now len) := by
  by_cases hc : inC c = false
  · have E := Lib.hid (renew_fail (seq := seq) (now := now) (len := len) h (show renewE s d c seq now len = 1 by simp [renewE, hc]) (by omega) (Mod.refl _ _))
    go_enter Tryd.func122, Tryd.ntmps122
    go_wp2_with (go_at_call 37; refine (bkOf_out _ _ _ hc).mono ?_; rintro e w' ⟨rfl, rfl⟩)
    go_ret2
    exact E.out
  have hc' : inC c = true := by simpa using hc
  by_cases h1 : seq < 1
  · have E := Lib.hid (renew_fail (seq := seq) (now := now) (len := len) h (show renewE s d c seq now len = 1 by simp [renewE, hc', h1]) (by omega) (Mod.refl _ _))
    obtain ⟨k, rfl, hk⟩ := inC_nat hc'
    clear hc hc'
    go_enter Tryd.func122, Tryd.ntmps122
    go_wp2_with (go_at_call 37; refine (bkOf_in _ _ _ hk).mono ?_; rintro e w' ⟨rfl, rfl⟩)
    go_ret2
    exact E.out
  by_cases h2 : 1099511627776 < seq
  · have E := Lib.hid (renew_fail (seq := seq) (now := now) (len := len) h (show renewE s d c seq now len = 1 by simp [renewE, hc', h1, h2]) (by omega) (Mod.refl _ _))
    obtain ⟨k, rfl, hk⟩ := inC_nat hc'
    have hd1 : decide (seq < 1) = false := by simpa using h1
    clear hc hc'
    go_enter Tryd.func122, Tryd.ntmps122
    go_wp2_with (go_at_call 37; refine (bkOf_in _ _ _ hk).mono ?_; rintro e w' ⟨rfl, rfl⟩)
    go_ret2
    exact E.out
  have hd1 : decide (seq < 1) = false := by simpa using h1
  have hd2 : decide (1099511627776 < seq) = false := by simpa using h2
  by_cases h3 : (okT now && okT len) = false
  · have E := Lib.hid (renew_fail (w' := w.alloc (.cells #[.int .i64 now, .int .i64 len] 3)) (seq := seq) (now := now) (len := len) h (show renewE s d c seq now len = 1 by
      rw [Bool.and_eq_false_iff] at h3
      rcases h3 with h3 | h3
      · simp [renewE, hc', h1, h2, h3]
      · by_cases h4 : okT now = true <;> simp [renewE, hc', h1, h2, h3, h4]) (by omega) ((Mod.refl _ _).alloc _))
    obtain ⟨k, rfl, hk⟩ := inC_nat hc'
    have T := time2_calls w now len
    rw [h3] at T
    have T' := Lib.hid T
    clear hc hc' T h3
    go_enter Tryd.func122, Tryd.ntmps122
    go_wp2_with (first | (go_at_call 37; refine (bkOf_in _ _ _ hk).mono ?_; rintro e w' ⟨rfl, rfl⟩) | (go_at_call 141; refine T'.out.mono ?_; rintro e w' ⟨rfl, rfl⟩))
    go_ret2
    exact E.out
  have h3' : (okT now && okT len) = true := by simpa using h3
  have h3n : okT now = true := by simp at h3'; exact h3'.1
  have h3l : okT len = true := by simp at h3'; exact h3'.2
  have T := time2_calls w now len
  rw [h3'] at T
  have T' := Lib.hid T
  have b1 : 0 ≤ now ∧ now ≤ 1099511627776 := by simpa [okT] using h3n
  have b2 : 0 ≤ len ∧ len ≤ 1099511627776 := by simpa [okT] using h3l
  obtain ⟨k, rfl, hk⟩ := inC_nat hc'
  have hA := h.arr.alloc (.cells #[.int .i64 now, .int .i64 len] 3)
  have hb := h.arr.lt
  have h' : Bk (w.alloc (.cells #[.int .i64 now, .int .i64 len] 3)) b u s d := ⟨hA, h.ub⟩
  clear T h3 h3'
  have cd := h.cd k hk
  have cs := h.cs k hk
  have cu := h.cu k hk
  by_cases h4 : d k = true
  · have E := Lib.hid (renew_fail (w' := w.alloc (.cells #[.int .i64 now, .int .i64 len] 3)) (seq := seq) (now := now) (len := len) h (show renewE s d k seq now len = 200 by simp [renewE, hc', h1, h2, h3n, h3l, h4]) (by omega) ((Mod.refl _ _).alloc _))
    rw [h4] at cd
    clear hc hc' h4 h3n h3l
    go_enter Tryd.func122, Tryd.ntmps122
    go_wp2_with (first | (go_at_call 37; refine (bkOf_in _ _ _ hk).mono ?_; rintro e w' ⟨rfl, rfl⟩) | (go_at_call 141; refine T'.out.mono ?_; rintro e w' ⟨rfl, rfl⟩))
    go_ret2
    exact E.out
  have h4' : d k = false := by simpa using h4
  rw [h4'] at cd
  by_cases h5 : seq ≤ s k
  · have E := Lib.hid (renew_fail (w' := w.alloc (.cells #[.int .i64 now, .int .i64 len] 3)) (seq := seq) (now := now) (len := len) h (show renewE s d k seq now len = 5 by simp [renewE, hc', h1, h2, h3n, h3l, h4', h5]) (by omega) ((Mod.refl _ _).alloc _))
    clear hc hc' h4 h4' h3n h3l
    go_enter Tryd.func122, Tryd.ntmps122
    go_wp2_with (first | (go_at_call 37; refine (bkOf_in _ _ _ hk).mono ?_; rintro e w' ⟨rfl, rfl⟩) | (go_at_call 141; refine T'.out.mono ?_; rintro e w' ⟨rfl, rfl⟩))
    go_ret2
    exact E.out
  have T1 := time1_calls (w.alloc (.cells #[.int .i64 now, .int .i64 len] 3)) (now + len)
  by_cases h6 : 1099511627776 < now + len
  · have E := Lib.hid (renew_fail (w' := (w.alloc (.cells #[.int .i64 now, .int .i64 len] 3)).alloc (.cells #[.int .i64 (now + len)] 3)) (seq := seq) (now := now) (len := len) h (show renewE s d k seq now len = 6 by simp [renewE, hc', h1, h2, h3n, h3l, h4', h5, h6]) (by omega) (((Mod.refl _ _).alloc _).alloc _))
    rw [show okT (now + len) = false by simp [okT]; omega] at T1
    simp only [World.size_alloc] at T1
    have T1' := Lib.hid T1
    clear hc hc' h4 h4' h3n h3l T1
    go_enter Tryd.func122, Tryd.ntmps122
    go_wp2_with (first | (go_at_call 37; refine (bkOf_in _ _ _ hk).mono ?_; rintro e w' ⟨rfl, rfl⟩) | (go_at_call 141; (with_reducible refine T'.out.mono ?_); rintro e w' ⟨rfl, rfl⟩) | (go_at_call 141; refine T1'.out.mono ?_; rintro e w' ⟨rfl, rfl⟩))
    go_ret2
    exact E.out
  · rw [show okT (now + len) = true by simp [okT]; omega] at T1
    simp only [World.size_alloc] at T1
    have T1' := Lib.hid T1
    have e0 : renewE s d k seq now len = 0 := by simp [renewE, hc', h1, h2, h3n, h3l, h4', h5, h6]
    have fu := h.arr.free (k * 3)
    have fs := h.arr.free (k * 3 + 1)
    have ub := h.ub k
    have key : ∀ m : Int, m = max (u k) (now + len) → RenewPost w b u s d k seq now len (.returned (.tuple #[.int .i64 m, .int .i64 0])) ((((w.setCell ⟨b, k * 3 + 1, none⟩ (.int .i64 seq)).setCell ⟨b, k * 3, none⟩ (.int .i64 m)).alloc (.cells #[.int .i64 now, .int .i64 len] 3)).alloc (.cells #[.int .i64 (now + len)] 3)) := by
      intro m hm
      subst hm
      refine ⟨by simp [renewV, e0], ?_, ((((Mod.refl _ _).setCell (by simp) _).setCell (by simp) _).alloc _).alloc _⟩
      simp only [renewU, renewS, if_pos e0, Int.toNat_natCast]
      have z := (h.setS k seq).setU k (max (u k) (now + len)) (by omega)
      exact ⟨(z.arr.alloc _).alloc _, z.ub⟩
    have K := Lib.hid key
    clear hc hc' h4 h4' h3n h3l T1 e0 key
    go_enter Tryd.func122, Tryd.ntmps122
    go_wp2_with (first | (go_at_call 37; refine (bkOf_in _ _ _ hk).mono ?_; rintro e w' ⟨rfl, rfl⟩) | (go_at_call 141; (with_reducible refine T'.out.mono ?_); rintro e w' ⟨rfl, rfl⟩) | (go_at_call 141; refine T1'.out.mono ?_; rintro e w' ⟨rfl, rfl⟩))
    all_goals go_ret2
    all_goals exact K.out _ (by omega)

theorem swL_succ (u : Nat → Int) (d : Nat → Bool) (now : Int) (k : Nat) : swL u d now (k + 1) = swL u d now k ++ (if swB u d now k = true then [k] else []) := by
  unfold swL
  rw [List.range_succ, List.filter_append]
  by_cases h : swB u d now k = true <;> simp [List.filter_cons, h]
theorem swL_len (u : Nat → Int) (d : Nat → Bool) (now : Int) (k : Nat) : (swL u d now k).length ≤ k := by
  unfold swL
  have := List.length_filter_le (swB u d now) (List.range k)
  simpa using this
theorem swD_yes {u : Nat → Int} {d : Nat → Bool} {now : Int} {k : Nat} (h : swB u d now k = true) : upd (swD u d now k) k true = swD u d now (k + 1) := by
  funext i
  unfold upd swD
  by_cases e : i = k
  · subst e; simp [h]
  · have : (i < k + 1) = (i < k) := by simp; omega
    simp [e, this]
theorem swD_no {u : Nat → Int} {d : Nat → Bool} {now : Int} {k : Nat} (h : swB u d now k = false) : swD u d now k = swD u d now (k + 1) := by
  funext i
  unfold swD
  by_cases e : i = k
  · subst e; simp [h]
  · have : (i < k + 1) = (i < k) := by simp; omega
    simp [this]
theorem swD_zero (u : Nat → Int) (d : Nat → Bool) (now : Int) : swD u d now 0 = d := by funext i; simp [swD]
theorem swD_at (u : Nat → Int) (d : Nat → Bool) (now : Int) (k : Nat) : swD u d now k k = d k := by simp [swD]
theorem intsOf_len (l : List Nat) : (intsOf l).length = l.length := by simp [intsOf]

/-- What Sweep tells, and leaves. -/
def SweepPost (w : World) (b : Nat) (u s : Nat → Int) (d : Nat → Bool) (now : Int) (e : Ending) (w' : World) : Prop :=
  ∃ v, e = .returned v ∧ w'.ownsRow w.heap.size 3 1 v (swL u d now 8).length (intsOf (swL u d now 8)) ∧ Bk w' b u s (swD u d now 8) ∧ Mod [b] w w'

set_option maxHeartbeats 1000000 in
theorem bkSweep_calls (w : World) (b : Nat) (u s : Nat → Int) (d : Nat → Bool) (now : Int) (h : Bk w b u s d) :
    Calls Tryd.prog 123 #[.pointer (some ⟨b, 0, none⟩), .int .i64 now] w (SweepPost w b u s d now) := by
  have hb := h.arr.lt
  go_enter Tryd.func123, Tryd.ntmps123
  go_wp2
  go_loopw [8, 5] (fun i v wr => ∃ k : Nat, k ≤ 8 ∧ i = .int .i64 k ∧ wr.ownsRow w.heap.size 3 1 v (swL u d now k).length (intsOf (swL u d now k)) ∧ Bk wr b u s (swD u d now k) ∧ Mod [b] w wr) (fun i _ _ => 8 - (intOf i).toNat)
  case atStart => exact ⟨0, by omega, rfl, own_nil _ _ _ _, by rw [swD_zero]; exact h, Mod.refl _ _⟩
  case round =>
    obtain ⟨k, hk, rfl, ho, hB, hm⟩ := hrel
    by_cases hlt : k < 8
    · have cd := hB.cd k hlt
      have cu := hB.cu k hlt
      rw [swD_at] at cd
      have hlen := swL_len u d now k
      have fr := hB.arr.free (k * 3 + 2)
      have hk1 : (k : Int) < 8 := by omega
      have hsz := hm.size
      by_cases hs : swB u d now k = true
      · have HS := Lib.hid hs
        simp only [swB, Bool.and_eq_true, decide_eq_true_eq, Bool.not_eq_true'] at hs
        rw [hs.2] at cd
        have h1 := hs.1.1
        have h2 := hs.1.2
        clear hs
        have m1 : Mod [b] wr (wr.setCell ⟨b, k * 3 + 2, none⟩ (.bool true)) := (Mod.refl _ _).setCell (by simp) _
        have ho1 : ((wr.setCell ⟨b, k * 3 + 2, none⟩ (.bool true)).alloc (.cells #[.int .i64 (k : Int)] 3)).ownsRow w.heap.size 3 1 u5 (swL u d now k).length (intsOf (swL u d now k)) :=
          own_mod ho (m1.alloc _) (fun q hq => by have := own_lt' ho q hq; simp; omega)
        have hc0 := new_cell1 (wr.setCell ⟨b, k * 3 + 2, none⟩ (.bool true)) (.int .i64 (k : Int)) 3 wr.heap.size (by simp)
        have hB1 := hB.setD k true
        rw [swD_yes HS.out] at hB1
        go_wp2_with (at_builtin; go_loud (refine app1 w.heap.size 32 3 (.int .i64 0) 1 8 Tryd.underlying32 bk_info_int rfl (by omega) (by omega) rfl _ _ rfl u5 _ _ rfl ho1 wr.heap.size [.int .i64 (k : Int)] rfl rfl (news1 hc0) (by simp [Value.oneCell']) (by omega) (by simp; omega) ?_); intro g cap w1 ho2 hm2 hg hbg)
        have hgb : b ∉ u5.ownBlock.toList := fun e => by have := own_lt' ho b (by simpa using e); omega
        have hB2 := Bk.mod ⟨hB1.arr.alloc _, hB1.ub⟩ hm2 hgb
        have hm3 : Mod [b] w w1 := (hm.trans (m1.alloc _)).fresh hm2 (fun q hq => by have := own_lt' ho q (by simpa using hq); exact .inr (by omega))
        go_wp2
        go_roundw
        case rel =>
          have e1 : (swL u d now (k + 1)) = swL u d now k ++ [k] := by rw [swL_succ, if_pos HS.out]
          exact ⟨k + 1, by omega, by go_num, by rw [e1]; simpa [intsOf] using ho2, hB2, hm3⟩
        case measure => simp [intOf]; omega
      · have hs' : swB u d now k = false := by simpa using hs
        have HS := Lib.hid hs'
        have fin : wr.ownsRow w.heap.size 3 1 u5 (swL u d now (k + 1)).length (intsOf (swL u d now (k + 1))) ∧ Bk wr b u s (swD u d now (k + 1)) := by
          rw [swL_succ, hs', ← swD_no hs']
          simpa using ⟨ho, hB⟩
        have F := Lib.hid fin
        clear fin hs
        by_cases h1 : 0 ≤ u k
        · by_cases h2 : u k < now
          · have h3 : d k = true := by simpa [swB, h1, h2] using hs'
            rw [h3] at cd
            clear hs'
            go_wp2
            go_roundw
            case rel => exact ⟨k + 1, by omega, by go_num, F.out.1, F.out.2, hm⟩
            case measure => simp [intOf]; omega
          · have hd2 : decide (u k < now) = false := by simpa using h2
            clear hs'
            go_wp2
            go_roundw
            case rel => exact ⟨k + 1, by omega, by go_num, F.out.1, F.out.2, hm⟩
            case measure => simp [intOf]; omega
        · have hd1 : decide (0 ≤ u k) = false := by simpa using h1
          clear hs'
          go_wp2
          go_roundw
          case rel => exact ⟨k + 1, by omega, by go_num, F.out.1, F.out.2, hm⟩
          case measure => simp [intOf]; omega
    · obtain rfl : k = 8 := by omega
      go_wp2
      go_ret
      exact ⟨u5, rfl, ho, hB, hm⟩
end Go.Proofs.YtijjbkkcienfgaaDoor
