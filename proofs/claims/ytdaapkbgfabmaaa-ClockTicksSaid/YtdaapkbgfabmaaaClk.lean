/- What the calls of clocks (package clock, and the document's) come to: New, Len, Tick, Now. No condition beyond what stands in each. -/
import Derived.Test.YtdaapkbgfabmaaaProg
import Derived.Test.YtdaapkbgfabmaaaLib
namespace Go.Proofs.Ytdaapkbgfabmaaa
open Go.RowKit
set_option linter.unusedVariables false
set_option linter.unusedSimpArgs false
attribute [local go_sem ↓] Go.wp_at_zero Go.wp_at_succ

def clkN (n : Int) : Int := max 1 (min n 8)
def clkK (n : Int) : Nat := (clkN n).toNat
theorem clkK_eq (n : Int) : (clkK n : Int) = clkN n := by unfold clkK clkN; omega
theorem clkK_bd (n : Int) : 1 ≤ clkK n ∧ clkK n ≤ 8 := by unfold clkK clkN; omega
def clkF (n : Nat) (t : Nat → Int) (i : Nat) : Value := if i = 0 then .int .i64 n else .int .i64 (t (i - 1))
/-- Clocks at block b: n nodes, their times. -/
structure Ck (w : World) (b : Nat) (n : Nat) (t : Nat → Int) : Prop where
  arr : Arr w b 86 9 (clkF n t)
  n1 : 1 ≤ n
  n8 : n ≤ 8
  t0 : ∀ i, 0 ≤ t i ∧ t i ≤ 1099511627776

def tickE (n : Nat) (t : Nat → Int) (node by_ : Int) : Int :=
  if node < 0 then 3 else if n ≤ node then 3 else if by_ < 0 then 1 else if 1099511627776 - t node.toNat < by_ then 6 else 0
def tickT (n : Nat) (t : Nat → Int) (node by_ : Int) : Nat → Int :=
  fun i => if tickE n t node by_ = 0 ∧ i = node.toNat then t i + by_ else t i

theorem Ck.drewN {w : World} {b : Nat} {n : Nat} {t : Nat → Int} (h : Ck w b n t) (k : Nat) : Ck (w.drewN k) b n t := ⟨h.arr.drewN k, h.n1, h.n8, h.t0⟩
theorem Ck.drew {w : World} {b : Nat} {n : Nat} {t : Nat → Int} (h : Ck w b n t) : Ck w.drew b n t := ⟨h.arr.drew, h.n1, h.n8, h.t0⟩
theorem Ck.mod {S : List Nat} {w w' : World} {b : Nat} {n : Nat} {t : Nat → Int} (h : Ck w b n t) (m : Mod S w w') (hs : b ∉ S) : Ck w' b n t := ⟨h.arr.mod m hs, h.n1, h.n8, h.t0⟩

theorem tick_err {n : Nat} {node by_ : Int} {t : Nat → Int} {x : Int} (h : tickE n t node by_ = x) (hx : x ≠ 0) : tickT n t node by_ = t := by
  funext i
  unfold tickT
  rw [if_neg (by rw [h]; exact fun e => hx e.1)]

set_option maxHeartbeats 400000 in
theorem clkNew_calls (w : World) (n : Int) :
    Calls Try.prog 16 #[.int .i64 n] w fun e w' => e = .returned (.pointer (some ⟨w.heap.size, 0, none⟩)) ∧ Ck w' w.heap.size (clkK n) (fun _ => 0) ∧ Mod [] w w' := by
  have key : ∀ m : Int, clkN n = m → Ck (w.alloc (.cells #[.int .i64 m, .int .i64 0, .int .i64 0, .int .i64 0, .int .i64 0, .int .i64 0, .int .i64 0, .int .i64 0, .int .i64 0] 86)) w.heap.size (clkK n) (fun _ => 0) := by
    intro m hm
    refine ⟨Arr.new' _ _ _ 9 _ rfl ?_, (clkK_bd n).1, (clkK_bd n).2, fun _ => by omega⟩
    intro i hi
    have hm := (clkK_eq n).trans hm
    match i, hi with
    | 0, _ => simp [clkF, hm]
    | 1, _ | 2, _ | 3, _ | 4, _ | 5, _ | 6, _ | 7, _ | 8, _ => rfl
  go_enter Try.func16, Try.ntmps16
  go_wp2
  all_goals (go_ret; exact ⟨rfl, key _ (by unfold clkN; omega), (Mod.refl _ _).alloc _⟩)

theorem clkLen_calls (w : World) (b : Nat) (n : Nat) (t : Nat → Int) (h : Ck w b n t) :
    Calls Try.prog 18 #[.pointer (some ⟨b, 0, none⟩)] w fun e w' => e = .returned (.int .i64 n) ∧ w = w' := by
  have h0 : w.cell? ⟨b, 0, none⟩ = some (.int .i64 n) := h.arr.cell 0 (by omega)
  go_enter Try.func18, Try.ntmps18
  go_wp2
  go_ret
  exact ⟨rfl, rfl⟩

def nowV (n : Nat) (t : Nat → Int) (node : Int) : Int := if node < 0 then 0 else if n ≤ node then 0 else t node.toNat
theorem clkNow_calls (w : World) (b : Nat) (n : Nat) (t : Nat → Int) (node : Int) (h : Ck w b n t) :
    Calls Try.prog 21 #[.pointer (some ⟨b, 0, none⟩), .int .i64 node] w fun e w' => e = .returned (.int .i64 (nowV n t node)) ∧ w = w' := by
  have h0 : w.cell? ⟨b, 0, none⟩ = some (.int .i64 n) := h.arr.cell 0 (by omega)
  have hn := h.n8
  by_cases h1 : node < 0
  · have E := Lib.hid (show nowV n t node = 0 by simp [nowV, h1])
    go_enter Try.func21, Try.ntmps21
    go_wp2
    go_ret
    exact ⟨by rw [E.out]; rfl, rfl⟩
  · have hd : decide (node < 0) = false := by simpa using h1
    by_cases h2 : n ≤ node
    · have E := Lib.hid (show nowV n t node = 0 by simp [nowV, h1, h2])
      go_enter Try.func21, Try.ntmps21
      go_wp2
      go_ret
      exact ⟨by rw [E.out]; rfl, rfl⟩
    · have hc : w.cell? ⟨b, 1 + node.toNat, none⟩ = some (.int .i64 (t node.toNat)) := by
        rw [h.arr.cell _ (by omega)]; simp [clkF]
      have E := Lib.hid (show nowV n t node = t node.toNat by simp [nowV, h1, h2])
      go_enter Try.func21, Try.ntmps21
      go_wp2
      go_ret
      exact ⟨by rw [E.out]; rfl, rfl⟩

set_option maxHeartbeats 400000 in
theorem clkTick_calls (w : World) (b : Nat) (n : Nat) (t : Nat → Int) (node by_ : Int) (h : Ck w b n t) (hby : by_ ≤ 9223372036854775807) :
    Calls Try.prog 19 #[.pointer (some ⟨b, 0, none⟩), .int .i64 node, .int .i64 by_] w fun e w' =>
      e = .returned (.int .i64 (tickE n t node by_)) ∧ Ck w' b n (tickT n t node by_) ∧ Mod [b] w w' := by
  have h0 : w.cell? ⟨b, 0, none⟩ = some (.int .i64 n) := h.arr.cell 0 (by omega)
  have hn := h.n8
  have fail : ∀ x : Int, tickE n t node by_ = x → x ≠ 0 → (Ending.returned (.int .i64 x) = .returned (.int .i64 (tickE n t node by_)) ∧ Ck w b n (tickT n t node by_) ∧ Mod [b] w w) := fun x e hx =>
    ⟨by rw [e], by rw [tick_err e hx]; exact h, Mod.refl _ _⟩
  by_cases h1 : node < 0
  · have E := Lib.hid (fail 3 (by simp [tickE, h1]) (by omega))
    go_enter Try.func19, Try.ntmps19
    go_wp2
    go_ret
    exact E.out
  · have hd : decide (node < 0) = false := by simpa using h1
    by_cases h2 : n ≤ node
    · have E := Lib.hid (fail 3 (by simp [tickE, h1, h2]) (by omega))
      go_enter Try.func19, Try.ntmps19
      go_wp2
      go_ret
      exact E.out
    · by_cases h3 : by_ < 0
      · have E := Lib.hid (fail 1 (by simp [tickE, h1, h2, h3]) (by omega))
        go_enter Try.func19, Try.ntmps19
        go_wp2
        go_ret
        exact E.out
      · have hc : w.cell? ⟨b, 1 + node.toNat, none⟩ = some (.int .i64 (t node.toNat)) := by
          rw [h.arr.cell _ (by omega)]; simp [clkF]
        have hf := h.arr.free (1 + node.toNat)
        have ht := h.t0 node.toNat
        by_cases h4 : 1099511627776 - t node.toNat < by_
        · have E := Lib.hid (fail 6 (by simp [tickE, h1, h2, h3, h4]) (by omega))
          go_enter Try.func19, Try.ntmps19
          go_wp2
          go_ret
          exact E.out
        · have e0 : tickE n t node by_ = 0 := by simp [tickE, h1, h2, h3, h4]
          have E := Lib.hid e0
          clear e0
          go_enter Try.func19, Try.ntmps19
          go_wp2
          go_region
          all_goals go_wp2
          go_ret
          refine ⟨by rw [E.out]; rfl, ⟨((h.arr.set (1 + node.toNat) _).drew).congr ?_, h.n1, h.n8, fun i => ?_⟩, ((Mod.refl _ _).setCell (by simp) _).drew⟩
          · intro i hi
            have := E.out
            unfold tickT clkF
            by_cases e : i = 1 + node.toNat
            · subst e; simp [this]
            · by_cases e0 : i = 0
              · subst e0; simp; omega
              · have : ¬ (i - 1 = node.toNat) := by omega
                simp [e, e0, this]
          · unfold tickT
            have := h.t0 i
            split
            · rename_i hh; rw [hh.2]; omega
            · exact this

/-- The document's clocks at block b, their times in block g. -/
structure RCk (w : World) (b g : Nat) (n : Nat) (t : Nat → Int) : Prop where
  arr : Arr w b 33 1 (fun _ => .slice (some ⟨g, 0, none⟩) n n)
  row : Arr w g 3 n (fun i => .int .i64 (t i))
  ne : b ≠ g
  n1 : 1 ≤ n
  n8 : n ≤ 8
  t0 : ∀ i, 0 ≤ t i ∧ t i ≤ 1099511627776

theorem RCk.drew {w : World} {b g : Nat} {n : Nat} {t : Nat → Int} (h : RCk w b g n t) : RCk w.drew b g n t := ⟨h.arr.drew, h.row.drew, h.ne, h.n1, h.n8, h.t0⟩
theorem RCk.drewN {w : World} {b g : Nat} {n : Nat} {t : Nat → Int} (h : RCk w b g n t) (k : Nat) : RCk (w.drewN k) b g n t := ⟨h.arr.drewN k, h.row.drewN k, h.ne, h.n1, h.n8, h.t0⟩
theorem RCk.mod {S : List Nat} {w w' : World} {b g : Nat} {n : Nat} {t : Nat → Int} (h : RCk w b g n t) (m : Mod S w w') (hs : b ∉ S) (hg : g ∉ S) : RCk w' b g n t := ⟨h.arr.mod m hs, h.row.mod m hg, h.ne, h.n1, h.n8, h.t0⟩

theorem many05_calls (w : World) (n : Int) :
    Calls Try.prog 54 #[.int .i64 n] w fun e w' => e = .returned (.int .i64 (clkK n)) ∧ w = w' := by
  have key : ∀ m : Int, max 1 (min n 8) = m → Ending.returned (.int .i64 m) = .returned (.int .i64 (clkK n)) := fun m h => by rw [clkK_eq, ← h]; rfl
  go_enter Try.func54, Try.ntmps54
  go_wp2
  all_goals (go_ret; exact ⟨key _ (by omega), rfl⟩)

theorem info_int : (Try.prog.info? 3).map (fun i => (i.zero, i.size, i.bytes)) = some (some (.int .i64 0), 1, 8) := by kernel_rfl
theorem under_ints : Try.prog.underlying 31 = some (.slice 3) := Try.underlying31
theorem mk_ints (n : Nat) (h1 : n ≤ 1000) (W : World) : (Instr.makeSlice 31 (.int .i64 n) (.int .i64 n)).run Try.prog W = .ok (.slice (some ⟨W.heap.size, 0, none⟩) n n) (W.alloc (.cells (madeCells #[.int .i64 0] n) 3)) := by
  obtain ⟨i, hi, hz, hs, hb⟩ := info_parts info_int
  have := run_make (P := Try.prog) W 31 3 i (.int .i64 0) under_ints hi hz .i64 .i64 n n (by omega) (Int.le_refl _) (by rw [hb]; omega) (by omega)
  rw [hs, Nat.mul_one, Int.toNat_natCast] at this
  exact this
theorem made_get (v : Value) (n i : Nat) (h : i < n) : (madeCells #[v] n)[i]? = some v := by
  simp [madeCells, h, Nat.mod_one]

set_option maxHeartbeats 400000 in
theorem rNew_calls (w : World) (n : Int) :
    Calls Try.prog 17 #[.int .i64 n] w fun e w' => e = .returned (.pointer (some ⟨w.heap.size + 1, 0, none⟩)) ∧ RCk w' (w.heap.size + 1) w.heap.size (clkK n) (fun _ => 0) ∧ Mod [] w w' := by
  have hk := clkK_bd n
  have hmk := mk_ints (clkK n) (by omega)
  go_enter Try.func17, Try.ntmps17
  go_wp2_with (go_at_call 54; refine (many05_calls _ _).mono ?_; rintro e w' ⟨rfl, rfl⟩)
  go_ret
  refine ⟨rfl, ⟨?_, ?_, by omega, hk.1, hk.2, fun _ => by omega⟩, ((Mod.refl _ _).alloc _).alloc _⟩
  · have := Arr.new' (w.alloc (.cells (madeCells #[.int .i64 0] (clkK n)) 3)) #[.slice (some ⟨w.heap.size, 0, none⟩) (clkK n) (clkK n)] 33 1 (fun _ => .slice (some ⟨w.heap.size, 0, none⟩) (clkK n) (clkK n)) rfl (fun i hi => by
      obtain rfl : i = 0 := by omega
      rfl)
    simpa using this
  · exact (Arr.new' w (madeCells #[.int .i64 0] (clkK n)) 3 (clkK n) (fun _ => .int .i64 0) (size_madeCells _ _) (fun i hi => made_get _ _ _ hi)).alloc _

theorem rNow_calls (w : World) (b g : Nat) (n : Nat) (t : Nat → Int) (node : Int) (h : RCk w b g n t) :
    Calls Try.prog 22 #[.pointer (some ⟨b, 0, none⟩), .int .i64 node] w fun e w' => e = .returned (.int .i64 (nowV n t node)) ∧ w = w' := by
  have h0 : w.cell? ⟨b, 0, none⟩ = some (.slice (some ⟨g, 0, none⟩) n n) := h.arr.cell 0 (by omega)
  have hn := h.n8
  have hn1 := h.n1
  by_cases h1 : node < 0
  · have E := Lib.hid (show nowV n t node = 0 by simp [nowV, h1])
    go_enter Try.func22, Try.ntmps22
    go_wp2
    go_ret
    exact ⟨by rw [E.out]; rfl, rfl⟩
  · have hd : decide (node < 0) = false := by simpa using h1
    by_cases h2 : n ≤ node
    · have E := Lib.hid (show nowV n t node = 0 by simp [nowV, h1, h2])
      go_enter Try.func22, Try.ntmps22
      go_wp2
      go_ret
      exact ⟨by rw [E.out]; rfl, rfl⟩
    · have hc : w.cell? ⟨g, node.toNat, none⟩ = some (.int .i64 (t node.toNat)) := h.row.cell _ (by omega)
      have E := Lib.hid (show nowV n t node = t node.toNat by simp [nowV, h1, h2])
      go_enter Try.func22, Try.ntmps22
      go_wp2
      go_ret
      exact ⟨by rw [E.out]; rfl, rfl⟩

set_option maxHeartbeats 400000 in
theorem rTick_calls (w : World) (b g : Nat) (n : Nat) (t : Nat → Int) (node by_ : Int) (h : RCk w b g n t) (hby : by_ ≤ 9223372036854775807) :
    Calls Try.prog 20 #[.pointer (some ⟨b, 0, none⟩), .int .i64 node, .int .i64 by_] w fun e w' =>
      e = .returned (.int .i64 (tickE n t node by_)) ∧ RCk w' b g n (tickT n t node by_) ∧ Mod [g] w w' := by
  have h0 : w.cell? ⟨b, 0, none⟩ = some (.slice (some ⟨g, 0, none⟩) n n) := h.arr.cell 0 (by omega)
  have hn := h.n8
  have hn1 := h.n1
  have fail : ∀ x : Int, tickE n t node by_ = x → x ≠ 0 → (Ending.returned (.int .i64 x) = .returned (.int .i64 (tickE n t node by_)) ∧ RCk w b g n (tickT n t node by_) ∧ Mod [g] w w) := fun x e hx =>
    ⟨by rw [e], by rw [tick_err e hx]; exact h, Mod.refl _ _⟩
  by_cases h1 : node < 0
  · have E := Lib.hid (fail 3 (by simp [tickE, h1]) (by omega))
    go_enter Try.func20, Try.ntmps20
    go_wp2
    go_ret
    exact E.out
  · have hd : decide (node < 0) = false := by simpa using h1
    by_cases h2 : n ≤ node
    · have E := Lib.hid (fail 3 (by simp [tickE, h1, h2]) (by omega))
      go_enter Try.func20, Try.ntmps20
      go_wp2
      go_ret
      exact E.out
    · by_cases h3 : by_ < 0
      · have E := Lib.hid (fail 1 (by simp [tickE, h1, h2, h3]) (by omega))
        go_enter Try.func20, Try.ntmps20
        go_wp2
        go_ret
        exact E.out
      · have hc : w.cell? ⟨g, node.toNat, none⟩ = some (.int .i64 (t node.toNat)) := h.row.cell _ (by omega)
        have hf := h.row.free node.toNat
        have ht := h.t0 node.toNat
        by_cases h4 : 1099511627776 - t node.toNat < by_
        · have E := Lib.hid (fail 6 (by simp [tickE, h1, h2, h3, h4]) (by omega))
          go_enter Try.func20, Try.ntmps20
          go_wp2
          go_ret
          exact E.out
        · have E := Lib.hid (show tickE n t node by_ = 0 by simp [tickE, h1, h2, h3, h4])
          go_enter Try.func20, Try.ntmps20
          go_wp2
          go_region
          all_goals go_wp2
          go_ret
          refine ⟨by rw [E.out]; rfl, ⟨(h.arr.other (p := ⟨g, node.toNat, none⟩) (fun e => h.ne e.symm) _).drew, ((h.row.set node.toNat _).drew).congr ?_, h.ne, h.n1, h.n8, fun i => ?_⟩, ((Mod.refl _ _).setCell (by simp) _).drew⟩
          · intro i hi
            have := E.out
            unfold tickT
            by_cases e : i = node.toNat
            · subst e; simp [this]
            · simp [e]
          · unfold tickT
            have := h.t0 i
            split
            · rename_i hh; rw [hh.2]; omega
            · exact this
end Go.Proofs.Ytdaapkbgfabmaaa
