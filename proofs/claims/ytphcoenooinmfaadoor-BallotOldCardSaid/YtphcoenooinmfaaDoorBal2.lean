/- Votes and lists of votes in memory; the law's copy of a list. No condition. -/
import Derived.Test.YtphcoenooinmfaaDoorBal1
namespace Go.Proofs.YtphcoenooinmfaaDoor
open Go.RowKit
set_option linter.unusedVariables false
set_option linter.unusedSimpArgs false
attribute [local go_sem ↓] Go.wp_at_zero Go.wp_at_succ

structure VoteT where
  s : Int
  b : Int
  v : ByteArray
def VoteT.zero : VoteT := ⟨0, 0, ⟨#[]⟩⟩
def VoteT.cF (x : VoteT) (i : Nat) : Value := if i = 0 then .int .i64 x.s else if i = 1 then .int .i64 x.b else .string x.v
def VoteT.cs (x : VoteT) : List Value := [.int .i64 x.s, .int .i64 x.b, .string x.v]
def VoteT.Bd (x : VoteT) : Prop := (-9223372036854775808 ≤ x.s ∧ x.s ≤ 9223372036854775807) ∧ (-9223372036854775808 ≤ x.b ∧ x.b ≤ 9223372036854775807) ∧ x.v.size ≤ 9223372036854775807
def vcells : List VoteT → List Value
  | [] => []
  | x :: L => x.cs ++ vcells L
def vF (L : List VoteT) (k j : Nat) : Value := (L.getD k VoteT.zero).cF j
theorem vcells_app (L M : List VoteT) : vcells (L ++ M) = vcells L ++ vcells M := by
  induction L with
  | nil => rfl
  | cons x L ih => simp [vcells, ih, List.append_assoc]
theorem vcells_one (L : List VoteT) (x : VoteT) : vcells L ++ x.cs = vcells (L ++ [x]) := by rw [vcells_app]; simp [vcells]
theorem vcells_get : ∀ (L : List VoteT) (k j : Nat), k < L.length → j < 3 → (vcells L).getD (k * 3 + j) undef = vF L k j := by
  intro L
  induction L with
  | nil => intro k j hk; simp at hk
  | cons x L ih =>
    intro k j hk hj
    cases k with
    | zero =>
      match j, hj with
      | 0, _ | 1, _ | 2, _ => rfl
    | succ k =>
      have := ih k j (by simpa using hk) hj
      rw [vcells, show (k + 1) * 3 + j = 3 + (k * 3 + j) by omega, List.getD_eq_getElem?_getD, List.getElem?_append_right (by simp [VoteT.cs])]
      rw [List.getD_eq_getElem?_getD] at this
      simp only [VoteT.cs, List.length_cons, List.length_nil, Nat.zero_add, Nat.reduceAdd, Nat.add_sub_cancel_left]
      rw [this]
      unfold vF
      simp
/-- A list of votes, read. -/
def Vs (w : World) (v : Value) (L : List VoteT) : Prop := SlA w v L.length 3 (vF L)
theorem Vs.mod {w w' : World} {v : Value} {L : List VoteT} (h : Vs w v L) (m : Mod [] w w') : Vs w' v L := SlA.mod h (m.below (Nat.le_refl _) (by simp))
theorem row_vs {w : World} {base e : Nat} {v : Value} {L : List VoteT} (h : w.ownsRow base e 3 v L.length (vcells L)) : Vs w v L :=
  (own_slA h).congr fun i j hi hj => vcells_get L i j hi hj
theorem own_apart {w : World} {b1 e1 s1 n1 b2 e2 s2 n2 : Nat} {v1 v2 : Value} {xs1 xs2 : List Value} (h1 : w.ownsRow b1 e1 s1 v1 n1 xs1) (h2 : w.ownsRow b2 e2 s2 v2 n2 xs2) (hne : e1 ≠ e2) : ∀ k, v1.ownBlock = some k → k ∉ v2.ownBlock.toList := by
  intro k hk hx
  obtain ⟨_, g1 | ⟨g, cap, cur, e, _, f1, _⟩⟩ := h1
  · rw [g1.1] at hk; simp [Value.ownBlock] at hk
  · obtain ⟨_, g2 | ⟨g', cap', cur', e', _, f2, _⟩⟩ := h2
    · rw [g2.1] at hx; simp [Value.ownBlock] at hx
    · rw [e] at hk
      rw [e'] at hx
      simp [Value.ownBlock] at hk hx
      subst hk
      subst hx
      rw [f1] at f2
      injection f2 with f2
      injection f2 with _ f2
      exact hne f2
theorem own_empty (w : World) (base : Nat) (e : TypeId) (sz : Nat) (h : base ≤ w.heap.size) : (w.alloc (.cells #[] e)).ownsRow base e sz (.slice (some ⟨w.heap.size, 0, none⟩) 0 0) 0 [] :=
  ⟨by simp, .inr ⟨w.heap.size, 0, #[], rfl, h, heap_alloc_new w _, Nat.le_refl _, by decide, by simp, by simp⟩⟩
theorem rvote_info : (Tryd.prog.info? 38).map (fun i => (i.zero, i.size, i.bytes)) = some (some (.agg #[.int .i64 0, .int .i64 0, .string ⟨#[]⟩]), 3, 32) := by kernel_rfl
theorem vote_info : (Tryd.prog.info? 33).map (fun i => (i.zero, i.size, i.bytes)) = some (some (.agg #[.int .i64 0, .int .i64 0, .string ⟨#[]⟩]), 3, 32) := by kernel_rfl
/-- The cells of a new block. -/
theorem news_cells (w : World) (e : TypeId) (x : VoteT) : ∀ (j : Nat) u, x.cs[j]? = some u → (w.alloc (.cells #[.int .i64 x.s, .int .i64 x.b, .string x.v] e)).cell? ⟨w.heap.size, j, none⟩ = some u := by
  intro j u hu
  match j, hu with
  | 0, hu => simp [VoteT.cs] at hu; subst hu; simp
  | 1, hu => simp [VoteT.cs] at hu; subst hu; simp
  | 2, hu => simp [VoteT.cs] at hu; subst hu; simp
  | j + 3, hu => simp [VoteT.cs] at hu
theorem take_snoc (L : List VoteT) (k : Nat) (hk : k < L.length) : L.take k ++ [L.getD k VoteT.zero] = L.take (k + 1) := by
  rw [List.take_succ_eq_append_getElem hk, List.getD_eq_getElem?_getD, List.getElem?_eq_getElem hk]
  rfl
set_option maxRecDepth 100000 in
set_option maxHeartbeats 1000000 in
theorem theirs_calls (w : World) (v : Value) (L : List VoteT) (hV : Vs w v L) (hl : L.length ≤ 100000) :
    Calls Tryd.prog 18 #[v] w fun r w' => ∃ vl, r = .returned vl ∧ w'.ownsRow w.heap.size 38 3 vl L.length (vcells L) ∧ Mod [] w w' := by
  obtain ⟨A, cap, rfl, hc, hm, hx⟩ := SlA.ex hV
  have hcap : cap ≤ 9223372036854775807 := by unfold maxLen at hm; omega
  have HX := Lib.hid hx
  have H0 := Lib.hid (own_empty w w.heap.size 38 3 (Nat.le_refl _))
  have M0 : Hid (Mod [] w (w.alloc (.cells #[] 38))) := Lib.hid ((Mod.refl _ _).alloc _)
  clear hx hV hm
  go_enter Tryd.func18, Tryd.ntmps18
  go_wp2
  go_loopw [3, 4] (fun u i wr => ∃ (k : Nat) (u' : Value), u = u' ∧ k ≤ L.length ∧ i = .int .i64 k ∧ wr.ownsRow w.heap.size 38 3 u' k (vcells (L.take k)) ∧ Mod [] w wr) (fun _ i _ => L.length - (intOf i).toNat)
  case atStart => exact ⟨0, _, rfl, Nat.zero_le _, rfl, H0.out, M0.out⟩
  case round =>
    obtain ⟨k, u', rfl, hk, rfl, ho, hM⟩ := hrel
    clear H0 M0
    by_cases hlt : k < L.length
    · have i0 : (0 : Int) ≤ (k : Int) := by omega
      have i1 : (k : Int) < (L.length : Int) := by omega
      obtain ⟨bb, off, rfl, hcell⟩ := HX.out (by omega)
      have x0 := hM.cell' (hcell k 0 hlt (by omega)) (by simp)
      have x1 := hM.cell' (hcell k 1 hlt (by omega)) (by simp)
      have x2 := hM.cell' (hcell k 2 hlt (by omega)) (by simp)
      unfold vF VoteT.cF at x0 x1 x2
      simp only [if_true, if_false, Nat.reduceEqDiff, Nat.add_zero] at x0 x1 x2
      obtain ⟨y, hy⟩ : ∃ y, y = L.getD k VoteT.zero := ⟨_, rfl⟩
      rw [← hy] at x0 x1 x2
      have HT := Lib.hid (take_snoc L k hlt)
      rw [← hy] at HT
      obtain ⟨wa, hwa⟩ : ∃ wa, wa = wr.alloc (.cells #[.int .i64 y.s, .int .i64 y.b, .string y.v] 38) := ⟨_, rfl⟩
      have ma : Mod [] wr wa := by rw [hwa]; exact (Mod.refl _ _).alloc _
      have hoa := own_mod ho ma (by simp)
      have HN := Lib.hid (news_cells wr 38 y)
      rw [← hwa] at HN
      have HMA := Lib.hid (hM.trans ma)
      have hwz : w.heap.size ≤ wa.heap.size := (hM.trans ma).size
      have HWA := Lib.hid hwa
      have HOA := Lib.hid hoa
      obtain ⟨s0, b0, t0⟩ := y
      simp only at x0 x1 x2
      clear hcell hy ho hM hwa ma
      go_wp2_with (
        at_builtin
        rw [← HWA.out]
        refine app1 w.heap.size 34 38 (.agg #[.int .i64 0, .int .i64 0, .string ⟨#[]⟩]) 3 32 Tryd.underlying34 rvote_info rfl (by omega) (by omega) rfl _ _ rfl u3 _ _ rfl hoa wr.heap.size (VoteT.cs ⟨s0, b0, t0⟩) rfl rfl HN.out (by simp [VoteT.cs, Value.oneCell']) (by omega) hwz ?_
        intro ga cap w9 ho9 m9 hg9 hb9
        have O9 := Lib.hid ho9
        have M9 := Lib.hid m9
        clear ho9 m9 hoa)
      go_roundw
      case rel => exact ⟨k + 1, _, rfl, by omega, by go_num, by rw [← HT.out, ← vcells_one]; exact O9.out, HMA.out.fresh M9.out (fun x hx => .inr (own_lt' HOA.out x (by simpa using hx)).1)⟩
      case measure => simp [intOf]; omega
    · have i1 : ¬ (k : Int) < (L.length : Int) := by omega
      obtain rfl : k = L.length := by omega
      have F := Lib.hid (And.intro ho hM)
      rw [List.take_length] at F
      clear ho hM
      go_wp2
      go_ret
      exact ⟨_, rfl, F.out.1, F.out.2⟩
end Go.Proofs.YtphcoenooinmfaaDoor
