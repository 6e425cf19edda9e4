/- Commands out of an argument; who cancels: plain. No condition beyond what stands in each. The commands of a law's argument, done one by one. Condition: as in the text it stands on. -/
import Derived.Test.YtijjbkkcienfgaaDoorGr21
import Derived.Test.YtijjbkkcienfgaaDoorRow
namespace Go.Proofs.YtijjbkkcienfgaaDoor
open Go.RowKit
set_option linter.unusedVariables false
set_option linter.unusedSimpArgs false

/-- The command out of an element's cells. -/
def cm (f : Nat → Nat → Value) (i : Nat) : CmdT := ⟨intOf (f i 0), intOf (f i 1), intOf (f i 2), intOf (f i 3), intOf (f i 4), intOf (f i 5), intOf (f i 6), intOf (f i 7), intOf (f i 8)⟩
/-- The service behind the first k of them. -/
def runC (x : GS) (f : Nat → Nat → Value) : Nat → GS
  | 0 => x
  | k + 1 => ((runC x f k).Do (cm f k)).1
theorem runC_inv {x : GS} (h : GInv x) (f : Nat → Nat → Value) : ∀ k, GInv (runC x f k)
  | 0 => h
  | k + 1 => inv_do (runC_inv h f k) _
theorem bg_inv : ∀ k, GInv (bg k)
  | 0 => inv_new
  | k + 1 => inv_do (bg_inv k) _
theorem any_take {l : List HoldT} {k : Nat} {y : HoldT} (p : HoldT → Bool) (h : l[k]? = some y) : (l.take (k + 1)).any p = ((l.take k).any p || p y) := by
  have hlt := (List.getElem?_eq_some_iff.1 h).1
  rw [List.take_succ_eq_append_getElem hlt, List.any_append, (List.getElem?_eq_some_iff.1 h).2]
  simp
theorem do8 (x : GS) {c : CmdT} (h : c.k = 8) : x.Do c = x.cancel c := by simp [GS.Do, h]
theorem cancel_none {x : GS} (hI : GInv x) {c : CmdT} (h : (x.wl.any fun o => decide ((o.2.2.1 : Int) = c.c)) = false) : (x.cancel c).1.wl = x.wl ∧ (x.cancel c).2.e ≠ 0 ∧ ((x.cancel c).2.e = 3 ∨ ((x.cancel c).2.e = 1 ∧ inC8 c.c = false)) := by
  have hf : (x.wl.filter fun h => decide (¬ (h.2.2.1 : Int) = c.c)) = x.wl := by
    rw [List.filter_eq_self]
    intro y hy
    rw [List.any_eq_false] at h
    have := h y hy
    simpa using this
  unfold GS.cancel
  by_cases hc : inC8 c.c = false
  · rw [if_pos hc]
    exact ⟨rfl, by simp [GA.err], .inr ⟨rfl, hc⟩⟩
  · rw [if_neg hc, hf, if_pos rfl]
    exact ⟨rfl, by simp [GA.err], .inl rfl⟩
theorem filt_one {l : List HoldT} {c : Int} (hd : (l.map fun h => h.2.2.1).Nodup) (h : (l.any fun o => decide ((o.2.2.1 : Int) = c)) = true) : (l.filter fun h => decide (¬ (h.2.2.1 : Int) = c)).length + 1 = l.length := by
  induction l with
  | nil => simp at h
  | cons y l ih =>
    rw [List.map_cons, List.nodup_cons] at hd
    by_cases e : (y.2.2.1 : Int) = c
    · have : (l.filter fun h => decide (¬ (h.2.2.1 : Int) = c)) = l := by
        rw [List.filter_eq_self]
        intro z hz
        simp only [decide_eq_true_eq]
        intro e2
        apply hd.1
        rw [List.mem_map]
        exact ⟨z, hz, by omega⟩
      rw [List.filter_cons, if_neg (by simpa using e), this]
      rfl
    · rw [List.filter_cons, if_pos (by simpa using e)]
      have h2 : (l.any fun o => decide ((o.2.2.1 : Int) = c)) = true := by simpa [e] using h
      have := ih hd.2 h2
      simp only [List.length_cons]
      omega
theorem cancel_some {x : GS} (hI : GInv x) {c : CmdT} (h : (x.wl.any fun o => decide ((o.2.2.1 : Int) = c.c)) = true) : (x.cancel c).2.e = 0 ∧ (∀ y ∈ (x.cancel c).1.wl, ¬ (y.2.2.1 : Int) = c.c) ∧ (x.cancel c).1.wl.length + (x.cancel c).2.g.length + 1 = x.wl.length := by
  have hl := filt_one hI.one h
  rw [List.any_eq_true] at h
  obtain ⟨y, hy, hyc⟩ := h
  have hyc : (y.2.2.1 : Int) = c.c := by simpa using hyc
  have hc : inC8 c.c = true := by
    have := (hI.wl y hy).2.2.1
    rw [inC8_iff]
    omega
  unfold GS.cancel
  rw [if_neg (by simp [hc]), if_neg (by omega)]
  have hI2 : GInv { x with wl := x.wl.filter fun h => decide (¬ (h.2.2.1 : Int) = c.c) } := inv_filter hI _ rfl rfl rfl
  have I := srvI_srv hI2.last
  refine ⟨rfl, fun z hz => ?_, ?_⟩
  · have := I.left.subset hz
    have := (List.mem_filter.1 this).2
    simpa using this
  · have := I.len
    show (GS.srv _).left.length + (GS.srv _).out.length + 1 = _
    have e : ({ x with wl := x.wl.filter fun h => decide (¬ (h.2.2.1 : Int) = c.c) } : GS).wl.length + 1 = x.wl.length := hl
    omega
open Go.RowKit
set_option linter.unusedVariables false
set_option linter.unusedSimpArgs false

/-- An argument of commands: its cells. -/
structure CmdArg (W : World) (p : Option Addr) (n : Nat) (f : Nat → Nat → Value) : Prop where
  ex : 0 < n → ∃ b off, p = some ⟨b, off, none⟩ ∧ ∀ i j, i < n → j < 9 → W.cell? ⟨b, off + i * 9 + j, none⟩ = some (f i j)
  int : ∀ i j, i < n → j < 9 → f i j = .int .i64 (intOf (f i j))
theorem cmdArg_of {W : World} {v0 : Value} (c0 : CellOk W (.sl [.int .i64, .int .i64, .int .i64, .int .i64, .int .i64, .int .i64, .int .i64, .int .i64, .int .i64]) v0) :
    ∃ p n cap f, v0 = .slice p n cap ∧ n ≤ cap ∧ cap ≤ 9223372036854775807 ∧ CmdArg W p n f := by
  obtain ⟨n, f, hA, hf⟩ := c0.slA (by simp)
  obtain ⟨A, cap0, rfl, hn, hcap, hcell⟩ := hA.ex
  refine ⟨A, n, cap0, f, rfl, hn, by unfold maxLen at hcap; omega, ⟨hcell, fun i j hi hj => ?_⟩⟩
  have hs : [Sh.int .i64, .int .i64, .int .i64, .int .i64, .int .i64, .int .i64, .int .i64, .int .i64, .int .i64][j]? = some (.int .i64) := by
    match j, hj with
    | 0, _ | 1, _ | 2, _ | 3, _ | 4, _ | 5, _ | 6, _ | 7, _ | 8, _ => rfl
  obtain ⟨x, e, _⟩ := (hf i j _ hi hs).int_inv
  rw [e]
  rfl
theorem cmdArg_at {W w : World} {p : Option Addr} {n : Nat} {f : Nat → Nat → Value} (h : CmdArg W p n f) (m : Mod [] W w) {i : Nat} (hi : i < n) : ∃ b off, p = some ⟨b, off, none⟩ ∧
    w.cell? ⟨b, off + i * 9, none⟩ = some (.int .i64 (cm f i).k) ∧ w.cell? ⟨b, off + i * 9 + 1, none⟩ = some (.int .i64 (cm f i).c) ∧ w.cell? ⟨b, off + i * 9 + 2, none⟩ = some (.int .i64 (cm f i).q) ∧ w.cell? ⟨b, off + i * 9 + 3, none⟩ = some (.int .i64 (cm f i).n) ∧ w.cell? ⟨b, off + i * 9 + 4, none⟩ = some (.int .i64 (cm f i).l) ∧
    w.cell? ⟨b, off + i * 9 + 5, none⟩ = some (.int .i64 (cm f i).a) ∧ w.cell? ⟨b, off + i * 9 + 6, none⟩ = some (.int .i64 (cm f i).b) ∧ w.cell? ⟨b, off + i * 9 + 7, none⟩ = some (.int .i64 (cm f i).m) ∧ w.cell? ⟨b, off + i * 9 + 8, none⟩ = some (.int .i64 (cm f i).o) := by
  obtain ⟨b, off, e, hc⟩ := h.ex (by omega)
  have key : ∀ j, j < 9 → w.cell? ⟨b, off + i * 9 + j, none⟩ = some (.int .i64 (intOf (f i j))) := fun j hj => m.cell' ((hc i j hi hj).trans (by rw [← h.int i j hi hj])) (by simp)
  exact ⟨b, off, e, key 0 (by omega), key 1 (by omega), key 2 (by omega), key 3 (by omega), key 4 (by omega), key 5 (by omega), key 6 (by omega), key 7 (by omega), key 8 (by omega)⟩
end Go.Proofs.YtijjbkkcienfgaaDoor
