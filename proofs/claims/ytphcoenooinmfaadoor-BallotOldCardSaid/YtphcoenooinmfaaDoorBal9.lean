/- The document's acceptor: in memory; Prepare. No further condition. -/
import Derived.Test.YtphcoenooinmfaaDoorBal8
import Derived.Test.YtphcoenooinmfaaDoorErrs
namespace Go.Proofs.YtphcoenooinmfaaDoor
open Go.RowKit
set_option linter.unusedVariables false
set_option linter.unusedSimpArgs false
attribute [local go_sem ↓] Go.wp_at_zero Go.wp_at_succ

def raF (p : Int) (v : Value) (i : Nat) : Value := if i = 0 then .int .i64 p else v
/-- The document's acceptor at block r: what it promised, its votes. -/
structure RAcc (w : World) (B r : Nat) (p : Int) (v : Value) (L : List VoteT) : Prop where
  arr : Arr w r 48 2 (raF p v)
  own : w.ownsRow B 38 3 v L.length (vcells L)
namespace RAcc
variable {w w' : World} {B r : Nat} {p : Int} {v : Value} {L : List VoteT}
theorem ne (h : RAcc w B r p v L) : r ∉ v.ownBlock.toList := own_ne_arr h.own h.arr (by decide)
theorem ne' (h : RAcc w B r p v L) : ∀ k, v.ownBlock = some k → k ∉ [r] := fun k hk hx => by
  have := h.ne
  rw [hk] at this
  simp at this hx
  exact this hx.symm
theorem mod {S : List Nat} (h : RAcc w B r p v L) (m : Mod S w w') (hr : r ∉ S) (hv : ∀ k, v.ownBlock = some k → k ∉ S) : RAcc w' B r p v L := ⟨h.arr.mod m hr, own_mod h.own m hv⟩
theorem mod0 (h : RAcc w B r p v L) (m : Mod [] w w') : RAcc w' B r p v L := h.mod m (by simp) (by simp)
theorem setP (h : RAcc w B r p v L) (b : Int) : RAcc (w.setCell ⟨r, 0, none⟩ (.int .i64 b)) B r b v L :=
  ⟨(h.arr.set 0 _).congr fun i hi => by
    unfold raF
    by_cases e : i = 0
    · simp [e]
    · simp [e], own_mod h.own ((Mod.refl [r] w).setCell (.inl (by simp)) _) h.ne'⟩
theorem setL (h : RAcc w B r p v L) {v' : Value} {L' : List VoteT} {w1 : World} (hA : Arr w1 r 48 2 (raF p v)) (ho : w1.ownsRow B 38 3 v' L'.length (vcells L')) : RAcc (w1.setCell ⟨r, 1, none⟩ v') B r p v' L' := by
  have hA' : Arr (w1.setCell ⟨r, 1, none⟩ v') r 48 2 (raF p v') := (hA.set 1 _).congr fun i hi => by
    unfold raF
    match i, hi with
    | 0, _ => rfl
    | 1, _ => rfl
  refine ⟨hA', own_mod ho ((Mod.refl [r] w1).setCell (.inl (by simp)) _) fun k hk hx => ?_⟩
  have := own_ne_arr ho hA (by decide)
  rw [hk] at this
  simp at this hx
  exact this hx.symm
theorem c0 (h : RAcc w B r p v L) : w.cell? ⟨r, 0, none⟩ = some (.int .i64 p) := h.arr.cell 0 (by omega)
theorem c1 (h : RAcc w B r p v L) : w.cell? ⟨r, 1, none⟩ = some v := h.arr.cell 1 (by omega)
theorem base {B' : Nat} (h : RAcc w B r p v L) (hb : B' ≤ B) : RAcc w B' r p v L := ⟨h.arr, own_base h.own hb⟩
theorem new (w : World) : RAcc (w.alloc (.cells #[.int .i64 0, .slice none 0 0] 48)) w.heap.size w.heap.size 0 (.slice none 0 0) [] :=
  ⟨Arr.new' w _ _ 2 _ rfl (fun i hi => by
    match i, hi with
    | 0, _ => rfl
    | 1, _ => rfl), own_nil _ _ _ _⟩
end RAcc
def fltL (s : Int) (L : List VoteT) : List VoteT := L.filter (fun x => decide (s ≤ x.s))
theorem flt_in {s : Int} {L : List VoteT} {k : Nat} (hk : k < L.length) (h : s ≤ (L.getD k VoteT.zero).s) : fltL s (L.take (k + 1)) = fltL s (L.take k) ++ [L.getD k VoteT.zero] := by
  unfold fltL
  rw [← take_snoc L k hk, List.filter_append]
  simp only [List.filter_cons, List.filter_nil, decide_eq_true h, if_true]
theorem flt_out {s : Int} {L : List VoteT} {k : Nat} (hk : k < L.length) (h : ¬ s ≤ (L.getD k VoteT.zero).s) : fltL s (L.take (k + 1)) = fltL s (L.take k) := by
  unfold fltL
  rw [← take_snoc L k hk, List.filter_append]
  simp only [List.filter_cons, List.filter_nil, decide_eq_false h, Bool.false_eq_true, if_false, List.append_nil]
theorem flt_len (s : Int) (L : List VoteT) (k : Nat) : (fltL s (L.take k)).length ≤ L.length := by
  unfold fltL
  have h1 := List.length_filter_le (fun x : VoteT => decide (s ≤ x.s)) (L.take k)
  rw [List.length_take] at h1
  omega
def rprepL (p b s : Int) (L : List VoteT) : List VoteT := if prepE p b = 0 then fltL s L else []
def RPrepPost (w : World) (B r : Nat) (p b s : Int) (vl : Value) (L : List VoteT) (e : Ending) (w' : World) : Prop :=
  ∃ v, e = .returned (.tuple #[v, .int .i64 (prepE p b)]) ∧ RAcc w' B r (prepP p b) vl L ∧ w'.ownsRow w.heap.size 38 3 v (rprepL p b s L).length (vcells (rprepL p b s L)) ∧ Mod [r] w w'
set_option maxRecDepth 100000 in
set_option maxHeartbeats 2000000 in
theorem rprepare_calls (w : World) (B r : Nat) (p b s : Int) (vl : Value) (L : List VoteT) (h : RAcc w B r p vl L) (hl : L.length ≤ 100000) :
    Calls Tryd.prog 24 #[.pointer (some ⟨r, 0, none⟩), .int .i64 b, .int .i64 s] w (RPrepPost w B r p b s vl L) := by
  have HP := Lib.hid h
  have q0 := h.c0
  have f0 := h.arr.free 0
  cases hb : balB b with
  | false =>
    have Bc := Lib.hid (rballot_calls w b false hb)
    have e1 : prepE p b = 1 := by unfold prepE; rw [if_pos hb]
    have F : Hid (RPrepPost w B r p b s vl L (.returned (.tuple #[.slice none 0 0, .int .i64 1])) w) := Lib.hid ⟨_, by rw [e1], by unfold prepP; rw [if_neg (by rw [e1]; decide)]; exact HP.out, by unfold rprepL; rw [if_neg (by rw [e1]; decide)]; exact own_nil _ _ _ _, Mod.refl _ _⟩
    clear h hb e1
    go_enter Tryd.func24, Tryd.ntmps24
    go_wp2_with fail
    refine Bc.out.mono ?_
    rintro e w1 ⟨rfl, rfl⟩
    go_wp2
    go_ret2
    exact F.out
  | true =>
    have Bc := Lib.hid (rballot_calls w b true hb)
    by_cases hlt : b < p
    · have e1 : prepE p b = 5 := by unfold prepE; rw [if_neg (by rw [hb]; decide), if_pos hlt]
      have F : Hid (RPrepPost w B r p b s vl L (.returned (.tuple #[.slice none 0 0, .int .i64 5])) w) := Lib.hid ⟨_, by rw [e1], by unfold prepP; rw [if_neg (by rw [e1]; decide)]; exact HP.out, by unfold rprepL; rw [if_neg (by rw [e1]; decide)]; exact own_nil _ _ _ _, Mod.refl _ _⟩
      clear h hb e1
      go_enter Tryd.func24, Tryd.ntmps24
      go_wp2_with fail
      refine Bc.out.mono ?_
      rintro e w1 ⟨rfl, rfl⟩
      go_wp2
      go_ret2
      exact F.out
    · have e1 : prepE p b = 0 := by unfold prepE; rw [if_neg (by rw [hb]; decide), if_neg hlt]
      have e2 : prepP p b = b := by unfold prepP; rw [if_pos e1]
      have e3 : rprepL p b s L = fltL s L := by unfold rprepL; rw [if_pos e1]
      have HE := Lib.hid (And.intro e1 (And.intro e2 e3))
      have hsz : (w.setCell ⟨r, 0, none⟩ (.int .i64 b)).heap.size = w.heap.size := by simp
      have HSZ := Lib.hid hsz
      obtain ⟨w1, hw1⟩ : ∃ w1, w1 = w.setCell ⟨r, 0, none⟩ (.int .i64 b) := ⟨_, rfl⟩
      have M0 : Hid (Mod [r] w w1) := Lib.hid (by rw [hw1]; exact (Mod.refl _ _).setCell (.inl (by simp)) _)
      have ha : RAcc w1 B r b vl L := by rw [hw1]; exact h.setP b
      rw [← hw1] at hsz
      have h00 := own_empty w1 w1.heap.size 38 3 (Nat.le_refl _)
      rw [hsz] at h00
      have HS1 := Lib.hid hsz
      obtain ⟨A, cap, rfl, hc, hm, hx⟩ := (own_slA ha.own).ex
      have hcap : cap ≤ 9223372036854775807 := by unfold maxLen at hm; omega
      have HX := Lib.hid hx
      have HA := Lib.hid ha
      have HW1 := Lib.hid hw1
      have H0 := Lib.hid h00
      have N0 : Hid (Mod [] w1 (w1.alloc (.cells #[] 38))) := Lib.hid ((Mod.refl _ _).alloc _)
      have hb' : ¬ b < p := hlt
      clear h hb e1 e2 e3 hsz hw1 ha hx hm HP h00
      go_enter Tryd.func24, Tryd.ntmps24
      go_wp2_with fail
      refine Bc.out.mono ?_
      rintro e w2 ⟨rfl, rfl⟩
      go_wp2
      rw [← HW1.out]
      go_loopw [8, 9] (fun u i wr => ∃ (k : Nat) (u' : Value), u = u' ∧ k ≤ L.length ∧ i = .int .i64 k ∧ wr.ownsRow w.heap.size 38 3 u' (fltL s (L.take k)).length (vcells (fltL s (L.take k))) ∧ Mod [] w1 wr) (fun _ i _ => L.length - (intOf i).toNat)
      case atStart => exact ⟨0, _, rfl, Nat.zero_le _, rfl, by simpa [fltL, vcells] using H0.out, N0.out⟩
      case round =>
        obtain ⟨k, u', rfl, hk, rfl, ho, hM⟩ := hrel
        clear H0 N0 q0 f0
        have c1 := (HA.out.mod0 hM).c1
        by_cases hlt : k < L.length
        · have i0 : (0 : Int) ≤ (k : Int) := by omega
          have i1 : (k : Int) < (L.length : Int) := by omega
          obtain ⟨bb, off, rfl, hcell⟩ := HX.out (by omega)
          have x0 := hM.cell' (by have := hcell k 0 hlt (by omega); rw [vcells_get L k 0 hlt (by omega)] at this; exact this) (by simp)
          have x1 := hM.cell' (by have := hcell k 1 hlt (by omega); rw [vcells_get L k 1 hlt (by omega)] at this; exact this) (by simp)
          have x2 := hM.cell' (by have := hcell k 2 hlt (by omega); rw [vcells_get L k 2 hlt (by omega)] at this; exact this) (by simp)
          unfold vF VoteT.cF at x0 x1 x2
          simp only [if_true, if_false, Nat.reduceEqDiff, Nat.add_zero] at x0 x1 x2
          have hfl := flt_len s L k
          by_cases hs : s ≤ (L.getD k VoteT.zero).s
          · have HT := Lib.hid (flt_in hlt hs)
            generalize L.getD k VoteT.zero = y at *
            obtain ⟨wa, hwa⟩ : ∃ wa, wa = wr.alloc (.cells #[.int .i64 y.s, .int .i64 y.b, .string y.v] 38) := ⟨_, rfl⟩
            have ma : Mod [] wr wa := by rw [hwa]; exact (Mod.refl _ _).alloc _
            have hoa := own_mod ho ma (by simp)
            have HN := Lib.hid (news_cells wr 38 y)
            rw [← hwa] at HN
            have HMA := Lib.hid (hM.trans ma)
            have hwz : w.heap.size ≤ wa.heap.size := by rw [← HS1.out]; exact (hM.trans ma).size
            have HWA := Lib.hid hwa
            have HOA := Lib.hid hoa
            obtain ⟨s0, b0, t0⟩ := y
            simp only at x0 x1 x2 hs
            clear hcell ho hM hwa ma
            go_wp2_with (
              at_builtin
              rw [← HWA.out]
              refine app1 w.heap.size 34 38 (.agg #[.int .i64 0, .int .i64 0, .string ⟨#[]⟩]) 3 32 Tryd.underlying34 rvote_info rfl (by omega) (by omega) rfl _ _ rfl u8 _ _ rfl hoa wr.heap.size (VoteT.cs ⟨s0, b0, t0⟩) rfl rfl HN.out (by simp [VoteT.cs, Value.oneCell']) (by omega) hwz ?_
              intro ga cap w9 ho9 m9 hg9 hb9
              have O9 := Lib.hid ho9
              have M9 := Lib.hid m9
              clear ho9 m9 hoa)
            go_roundw
            case rel => exact ⟨k + 1, _, rfl, by omega, by go_num, by rw [HT.out, ← vcells_one, List.length_append, List.length_singleton]; exact O9.out, HMA.out.fresh M9.out (fun x hx => .inr (by rw [HS1.out]; exact (own_lt' HOA.out x (by simpa using hx)).1))⟩
            case measure => simp [intOf]; omega
          · have HT := Lib.hid (flt_out hlt hs)
            generalize L.getD k VoteT.zero = y at *
            obtain ⟨s0, b0, t0⟩ := y
            simp only at x0 x1 x2 hs
            have HO := Lib.hid ho
            have HM := Lib.hid hM
            clear hcell ho hM
            go_wp2
            go_roundw
            case rel => exact ⟨k + 1, _, rfl, by omega, by go_num, by rw [HT.out]; exact HO.out, HM.out⟩
            case measure => simp [intOf]; omega
        · have i1 : ¬ (k : Int) < (L.length : Int) := by omega
          obtain rfl : k = L.length := by omega
          rw [List.take_length] at ho
          have F : Hid (RPrepPost w B r p b s (.slice A L.length cap) L (.returned (.tuple #[u8, .int .i64 0])) wr) := Lib.hid ⟨_, by rw [HE.out.1], by rw [HE.out.2.1]; exact HA.out.mod0 hM, by rw [HE.out.2.2]; exact ho, M0.out.trans hM.nil⟩
          clear ho hM
          go_wp2
          go_ret2
          exact F.out
end Go.Proofs.YtphcoenooinmfaaDoor
