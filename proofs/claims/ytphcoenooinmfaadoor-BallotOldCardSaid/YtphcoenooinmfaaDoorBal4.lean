/- Package ballot's acceptor in memory; its votes since a slot. No further condition. -/
import Derived.Test.YtphcoenooinmfaaDoorBal3
import Derived.Deep.MidRow
namespace Go.Proofs.YtphcoenooinmfaaDoor
open Go.RowKit
set_option linter.unusedVariables false
set_option linter.unusedSimpArgs false
attribute [local go_sem ↓] Go.wp_at_zero Go.wp_at_succ

def ptrV (g : Nat → Option VoteT) (f : Nat → Nat) (i : Nat) : Value := match g i with
  | none => .pointer none
  | some _ => .pointer (some ⟨f i, 0, none⟩)
def accF (p : Int) (g : Nat → Option VoteT) (f : Nat → Nat) (i : Nat) : Value := if i = 0 then .int .i64 p else ptrV g f (i - 1)
structure AccP (w : World) (a : Nat) (p : Int) (g : Nat → Option VoteT) (f : Nat → Nat) : Prop where
  arr : Arr w a 94 4097 (accF p g f)
  vote : ∀ i x, i < 4096 → g i = some x → x.s = i ∧ f i ≠ a ∧ Arr w (f i) 33 3 x.cF
theorem AccP.mod {w w' : World} {a : Nat} {p : Int} {g : Nat → Option VoteT} {f : Nat → Nat} (h : AccP w a p g f) (m : Mod [] w w') : AccP w' a p g f :=
  ⟨h.arr.mod m (by simp), fun i x hi hx => ⟨(h.vote i x hi hx).1, (h.vote i x hi hx).2.1, (h.vote i x hi hx).2.2.mod m (by simp)⟩⟩
/-- The votes of the first n slots, in order; from a slot on. -/
def votesN (g : Nat → Option VoteT) (n : Nat) : List VoteT := (List.range n).filterMap g
def votesF (g : Nat → Option VoteT) (from_ : Int) (n : Nat) : List VoteT := (votesN g n).filter (fun x => decide (from_ ≤ x.s))
theorem votesF_none {g : Nat → Option VoteT} {s : Int} {n : Nat} (h : g n = none) : votesF g s (n + 1) = votesF g s n := by
  unfold votesF votesN
  rw [List.range_succ, List.filterMap_append]
  simp [h]
theorem votesF_in {g : Nat → Option VoteT} {s : Int} {n : Nat} {x : VoteT} (h : g n = some x) (hs : s ≤ x.s) : votesF g s (n + 1) = votesF g s n ++ [x] := by
  unfold votesF votesN
  rw [List.range_succ, List.filterMap_append, List.filter_append]
  simp [h, hs]
theorem votesF_out {g : Nat → Option VoteT} {s : Int} {n : Nat} {x : VoteT} (h : g n = some x) (hs : ¬ s ≤ x.s) : votesF g s (n + 1) = votesF g s n := by
  unfold votesF votesN
  rw [List.range_succ, List.filterMap_append, List.filter_append]
  simp [h, hs]
theorem votesF_len (g : Nat → Option VoteT) (s : Int) (n : Nat) : (votesF g s n).length ≤ n := by
  unfold votesF votesN
  have h1 := List.length_filter_le (fun x : VoteT => decide (s ≤ x.s)) ((List.range n).filterMap g)
  have h2 := List.length_filterMap_le g (List.range n)
  rw [List.length_range] at h2
  omega
theorem arr_votes : (Tryd.prog.info? 92).map (·.size) = some 4096 := by kernel_rfl
def accL (g : Nat → Option VoteT) (f : Nat → Nat) : List Value := (List.range 4096).map (ptrV g f)
theorem accL_len (g : Nat → Option VoteT) (f : Nat → Nat) : (accL g f).length = 4096 := by simp [accL]
theorem accL_get (g : Nat → Option VoteT) (f : Nat → Nat) (i : Nat) (hi : i < 4096) : (accL g f)[i]? = some (ptrV g f i) := by simp [accL, hi]
theorem AccP.range {w : World} {a : Nat} {p : Int} {g : Nat → Option VoteT} {f : Nat → Nat} (h : AccP w a p g f) : w.rangeAt a 1 (accL g f) := by
  intro j v hv
  have hj : j < 4096 := by
    have := (List.getElem?_eq_some_iff.1 hv).1
    rwa [accL_len] at this
  rw [accL_get _ _ _ hj] at hv
  cases hv
  have := h.arr.cell (1 + j) (by omega)
  unfold accF at this
  rw [if_neg (by omega), show 1 + j - 1 = j by omega] at this
  exact this
theorem pv_info : (Tryd.prog.info? 91).map (·.size) = some 1 := by kernel_rfl
theorem run_index_pv (cs : List Value) (k : Nat) (v : Value) (h : cs[k]? = some v) (hk : k < 4096) (w : World) : (Instr.index 92 (.agg cs.toArray) (.int .i64 (k : Int))).run Tryd.prog w = .ok v w := by
  have h' : cs.toArray[k]? = some v := by simpa using h
  generalize cs.toArray = ca at *
  obtain ⟨i, hi, hs⟩ := Option.map_eq_some_iff.1 pv_info
  have h0 : (0 : Int) ≤ (k : Int) ∧ (k : Int) < ((4096 : Nat) : Int) := by omega
  have hag : (isAgg 91).run Tryd.prog w = .ok false w := by
    unfold isAgg
    rw [Sem.run_bind, run_underlying Tryd.underlying91 w]
    rfl
  simp [Instr.index, run_underlying Tryd.underlying92, asIntOf, go_sem, sizeOf, typeInfo, hi, hs, h0, part, hag, h', hk, Sem.run_bind]
set_option maxRecDepth 100000 in
set_option maxHeartbeats 1000000 in
theorem since_calls (w : World) (a : Nat) (p : Int) (g : Nat → Option VoteT) (f : Nat → Nat) (s : Int) (h : AccP w a p g f) :
    Calls Tryd.prog 45 #[.pointer (some ⟨a, 0, none⟩), .int .i64 s] w fun r w' => ∃ v, r = .returned v ∧ w'.ownsRow w.heap.size 33 3 v (votesF g s 4096).length (vcells (votesF g s 4096)) ∧ Mod [] w w' := by
  have HL := Lib.hid (h.range)
  have HP := Lib.hid h
  have hsi : (Tryd.prog.info? 92).map (·.size) = some (accL g f).length := by rw [accL_len]; exact arr_votes
  have HG := Lib.hid (fun i hi => accL_get g f i hi)
  have hsz := accL_len g f
  clear h
  generalize accL g f = cs at *
  go_enter Tryd.func45, Tryd.ntmps45
  go_wp2_with (refine wpList_load_mid rfl 92 _ rfl a 1 rfl cs _ HL.out Tryd.underlying92 rfl hsi ?_)
  go_loopw [5, 12] (fun u i wr => ∃ (k : Nat) (u' : Value), u = u' ∧ k ≤ 4096 ∧ i = .int .i64 k ∧ wr.ownsRow w.heap.size 33 3 u' (votesF g s k).length (vcells (votesF g s k)) ∧ Mod [] w wr) (fun _ i _ => 4096 - (intOf i).toNat)
  case atStart => exact ⟨0, _, rfl, Nat.zero_le _, rfl, own_nil _ _ _ _, Mod.refl _ _⟩
  case round =>
    obtain ⟨k, u', rfl, hk, rfl, ho, hM⟩ := hrel
    by_cases hlt : k < 4096
    · have i0 : (0 : Int) ≤ (k : Int) := by omega
      have i1 : (k : Int) < 4096 := by omega
      have hg := HG.out k hlt
      have hlen := votesF_len g s k
      have HO := Lib.hid ho
      have HM := Lib.hid hM
      cases hgk : g k with
      | none =>
        have e1 : cs[k]? = some (.pointer none) := by rw [hg]; unfold ptrV; rw [hgk]
        have e2 := run_index_pv cs k _ e1 hlt wr
        have HN := Lib.hid (votesF_none (s := s) hgk)
        clear hg hgk ho hM
        go_wp2
        go_roundw
        case rel => exact ⟨k + 1, _, rfl, by omega, by go_num, by rw [HN.out]; exact HO.out, HM.out⟩
        case measure => simp [intOf]; omega
      | some x =>
        have e1 : cs[k]? = some (.pointer (some ⟨f k, 0, none⟩)) := by rw [hg]; unfold ptrV; rw [hgk]
        obtain ⟨hxs, hfa, hAr⟩ := HP.out.vote k x hlt hgk
        by_cases hs : s ≤ x.s
        · have HN := Lib.hid (votesF_in hgk hs)
          have t1 : s ≤ (k : Int) := by omega
          have A9 := hAr.mod hM (by simp)
          have q0 := A9.cell 0 (by omega)
          have q1 := A9.cell 1 (by omega)
          have q2 := A9.cell 2 (by omega)
          unfold VoteT.cF at q0 q1 q2
          simp only [if_true, if_false, Nat.reduceEqDiff] at q0 q1 q2
          obtain ⟨wa, hwa⟩ : ∃ wa, wa = wr.alloc (.cells #[.int .i64 x.s, .int .i64 x.b, .string x.v] 33) := ⟨_, rfl⟩
          have ma : Mod [] wr wa := by rw [hwa]; exact (Mod.refl _ _).alloc _
          have hoa := own_mod ho ma (by simp)
          have HN9 := Lib.hid (news_cells wr 33 x)
          rw [← hwa] at HN9
          have HMA := Lib.hid (hM.trans ma)
          have hwz : w.heap.size ≤ wa.heap.size := (hM.trans ma).size
          have HWA := Lib.hid hwa
          have HOA := Lib.hid hoa
          have hji : (votesF g s k).length ≤ 1000000 := by omega
          obtain ⟨fb, hfb⟩ : ∃ fb, fb = f k := ⟨_, rfl⟩
          rw [← hfb] at e1 q0 q1 q2
          have e2 := run_index_pv cs k _ e1 hlt wr
          obtain ⟨s0, b0, t0⟩ := x
          simp only at q0 q1 q2 hxs hs
          clear hg hgk ho hM hAr hfa A9 hwa ma hfb hlen hxs hs
          go_wp2_with (
            at_builtin
            rw [← HWA.out]
            refine app1 w.heap.size 31 33 (.agg #[.int .i64 0, .int .i64 0, .string ⟨#[]⟩]) 3 32 Tryd.underlying31 vote_info rfl (by omega) (by omega) rfl _ _ rfl u5 _ _ rfl hoa wr.heap.size (VoteT.cs ⟨s0, b0, t0⟩) rfl rfl HN9.out (by simp [VoteT.cs, Value.oneCell']) hji hwz ?_
            intro ga cap w9 ho9 m9 hg9 hb9
            have O9 := Lib.hid ho9
            have M9 := Lib.hid m9
            clear ho9 m9 hoa)
          go_roundw
          case rel => exact ⟨k + 1, _, rfl, by omega, by go_num, by
            rw [HN.out, ← vcells_one, List.length_append, List.length_singleton]; exact O9.out, HMA.out.fresh M9.out (fun x hx => .inr (own_lt' HOA.out x (by simpa using hx)).1)⟩
          case measure => simp [intOf]; omega
        · have HN := Lib.hid (votesF_out hgk hs)
          have t1 : ¬ s ≤ (k : Int) := by omega
          obtain ⟨fb, hfb⟩ : ∃ fb, fb = f k := ⟨_, rfl⟩
          rw [← hfb] at e1
          have e2 := run_index_pv cs k _ e1 hlt wr
          clear hg hgk ho hM hAr hfa hfb hs hxs
          go_wp2
          go_roundw
          case rel => exact ⟨k + 1, _, rfl, by omega, by go_num, by rw [HN.out]; exact HO.out, HM.out⟩
          case measure => simp [intOf]; omega
    · have i1 : ¬ (k : Int) < 4096 := by omega
      obtain rfl : k = 4096 := by omega
      have F := Lib.hid (And.intro ho hM)
      clear ho hM
      go_wp2
      go_ret
      exact ⟨_, rfl, F.out.1, F.out.2⟩
end Go.Proofs.YtphcoenooinmfaaDoor
