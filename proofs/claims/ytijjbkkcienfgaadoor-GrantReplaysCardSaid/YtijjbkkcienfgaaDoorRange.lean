/- A law on 'for .. := range f', f a function: the iterator may keep cells of its own, the body owns a list of blocks. No condition. -/
import Derived.RangeFuncNested
import Derived.RangeFuncBound
import Derived.RangeFuncCalls
import Derived.RangeFuncLeaves
import Derived.Shelf.Abstract
import Derived.Shelf.RegionOpen
import Derived.WalkKit
import Derived.OwnWalkIn
import Derived.TacticsInMore
import Derived.LoopNIn
import Derived.LoopIn
import Derived.Sort.QuietIn
import Derived.Test.YtijjbkkcienfgaaDoorLib
namespace Go.Proofs.YtijjbkkcienfgaaDoor
open Go.RowKit Go.Shelf
set_option linter.unusedVariables false
set_option linter.unusedSimpArgs false

def IsCells (W : World) (k : Nat) : Prop := ∃ o : Obj, W.heap[k]? = some o ∧ o.isCells = true
theorem IsCells.lt {W : World} {k : Nat} (h : IsCells W k) : k < W.heap.size := by obtain ⟨o, h, _⟩ := h; exact (Array.getElem?_eq_some_iff.1 h).1
theorem IsCells.mod {S : List Nat} {W W' : World} {k : Nat} (h : IsCells W k) (m : Mod S W W') (hk : k ∉ S) : IsCells W' k := by obtain ⟨o, h, c⟩ := h; exact ⟨o, m.heap h hk, c⟩
theorem IsCells.of {W : World} {k : Nat} {cs : Array Value} {T : TypeId} {r : Nat × Nat} (h : W.heap[k]? = some (.cells cs T r)) : IsCells W k := ⟨_, h, rfl⟩
theorem Arr.isCells {w : World} {b : Nat} {T : TypeId} {N : Nat} {f : Nat → Value} (h : Arr w b T N f) : IsCells w b := let ⟨_, h1, _⟩ := h; .of h1
theorem mod_putObj (W : World) (k : Nat) (o : Obj) : Mod [k] W (W.putObj k o) :=
  ⟨rfl, rfl, rfl, by simp, fun i _ hi => World.putObj_heap_other (by simpa using hi)⟩

/-- What an iterator does to an invariant of its caller: it changes its own blocks, and makes new ones. -/
def Clo {α : Type} (J : List α → List Nat → World → Prop) : Prop :=
  ∀ s B B' A A', J s B A → Mod B A A' → (∀ b, b ∈ B → b ∈ B') → (∀ b, b ∈ B' → b ∈ B ∨ (A.heap.size ≤ b ∧ b < A'.heap.size)) → J s B' A'
/-- What a round keeps for the iterator: the iterator's own blocks, and those of K. -/
def Kp (B : List Nat) (K : Nat → Prop) (W W' : World) : Prop := W.heap.size ≤ W'.heap.size ∧ ∀ k, k < W.heap.size → (k ∈ B ∨ K k) → W'.heap[k]? = W.heap[k]?
def Rounds {α : Type} (P : Program) (l : Nat) (encs : α → Array Value) (K : Nat → Prop) (Px : List α → α → Prop) (J : List α → List Nat → World → Prop) (Jx : List α → World → Prop) : Prop :=
  ∀ pre B x W1, J pre B W1 → Px pre x → YieldAt Fence.wide 0 P l (encs x) W1 fun e W' =>
    (e = .returned (.bool true) ∧ J (pre ++ [x]) B W' ∧ Kp B K W1 W') ∨ (e = .returned (.bool false) ∧ Jx (pre ++ [x]) W')
/-- The contract of an iterator. -/
def Iter {α : Type} (P : Program) (gf : Nat) (lb : Array Value) (encs : α → Array Value) (K : Nat → Prop) (S Sp : List α → Prop) (Px : List α → α → Prop) (B0 : List Nat) (w : World) : Prop :=
  ∀ (l : Nat) (J : List α → List Nat → World → Prop) (Jx : List α → World → Prop) (W : World), Mod [] w W → Clo J → Rounds P l encs K Px J Jx → J [] B0 W →
    CallsIn Fence.wide 0 P gf (#[.func (.yield l) #[] #[]] ++ lb) W fun e W' => (∃ v, e = .returned v) ∧ ((∃ xs B, S xs ∧ J xs B W') ∨ (∃ pre, Sp pre ∧ Jx pre W'))

def NewIn (M : List Nat) (W : World) (M' : List Nat) (W' : World) : Prop := ∀ m, m ∈ M' → IsCells W' m ∧ (m ∈ M ∨ W.heap.size ≤ m)
def rfPost {α : Type} (Fc : List α → List Nat → World → Prop) (Fx : Code → List α → List Nat → World → Prop) (M : List Nat) (W : World) (xs : List α) : Exit → Act → World → Prop
  | .normal, _, W' => ∃ M', Fc xs M' W' ∧ Mod M W W' ∧ NewIn M W M' W'
  | .ret, _, W' => ∃ M', Fx .ret xs M' W' ∧ Mod M W W' ∧ NewIn M W M' W'
  | .exit id, _, W' => ∃ M', Fx (.exit id) xs M' W' ∧ Mod M W W' ∧ NewIn M W M' W'
  | .goto t, _, W' => ∃ M', Fx (.goto t) xs M' W' ∧ Mod M W W' ∧ NewIn M W M' W'
  | .panic _, _, _ => False
  | .outgrown, _, _ => False
/-- Blocks that were no cells lie as they lay. -/
def OldKept (w W : World) : Prop := ∀ (k : Nat) (o : Obj), w.heap[k]? = some o → o.isCells = false → W.heap[k]? = some o

set_option maxHeartbeats 1000000 in
theorem rf_law {α : Type} {P : Program} {g : Operand} {ps : Array Tmp} {assign body : Code} {Q : Exit → Act → World → Prop} {a : Act} {w : World}
    {gf : Nat} {lb : Array Value} (hg : a.eval g = .func (.func gf) #[] lb) (eg : ∀ args w, (callFunc gf args).run P w = .ok (.enter gf args) w)
    {encs : α → Array Value} (hps : ∀ x, (encs x).size = ps.size) {K : Nat → Prop} {S Sp : List α → Prop} {Px : List α → α → Prop} {B0 : List Nat} (hseq : Iter P gf lb encs K S Sp Px B0 w)
    (n₀ : Nat) (hn₀ : n₀ ≤ w.heap.size) (hK : ∀ k, K k → k < w.heap.size) (hB0 : ∀ b, b ∈ B0 → n₀ ≤ b ∧ IsCells w b)
    (Fc : List α → List Nat → World → Prop) (Fx : Code → List α → List Nat → World → Prop) (Fa : List α → α → Act → List Nat → World → Prop)
    (hFc : ∀ s M A A' T, Fc s M A → Mod T A A' → (∀ t, t ∈ T → t ∉ M ∧ n₀ ≤ t) → Fc s M A')
    (hFx : ∀ c s M A A' T, Fx c s M A → Mod T A A' → (∀ t, t ∈ T → t ∉ M ∧ n₀ ≤ t) → Fx c s M A')
    (hFa : ∀ s x a' M A A' T, Fa s x a' M A → Mod T A A' → (∀ t, t ∈ T → t ∉ M ∧ n₀ ≤ t) → Fa s x a' M A')
    (M0 : List Nat) (h0 : Fc [] M0 w) (hM0 : ∀ m, m ∈ M0 → IsCells w m ∧ m ∉ B0 ∧ ¬ K m)
    (hassign : ∀ (l : Nat) (pre : List α) (x : α) (M : List Nat) (W : World) (Kk : Act → World → Prop), Fc pre M W → (∀ a' M' W', Fa pre x a' M' W' → Mod M W W' → NewIn M W M' W' → Kk a' W') →
      assign.wpIn (Fence.wide.inRound l) 0 P (Exit.then Kk (fun _ _ _ => False)) { tmps := (ps.zip (encs x)).foldl (fun t (p, v) => t.setIfInBounds p v) a.tmps, defers := [] } W)
    (hbody : ∀ (l : Nat) (pre : List α) (x : α) (a' : Act) (M : List Nat) (W : World), Fa pre x a' M W → Px pre x → body.wpIn (Fence.wide.inRound l) 0 P (rfPost Fc Fx M W (pre ++ [x])) a' W)
    (hdone : ∀ (xs : List α) (M : List Nat) (W : World), S xs → Fc xs M W → OldKept w W → W.heap[w.heap.size]? = some (.deferred (some [])) → w.heap.size < W.heap.size → w.heap.size ∉ M → Q .normal { a with defers := { target := .collected w.heap.size, args := #[] } :: a.defers } W)
    (hstop : ∀ (c : Code) (pre : List α) (M : List Nat) (W : World), Sp pre → Fx c pre M W → OldKept w W → W.heap[w.heap.size]? = some (.deferred (some [])) → w.heap.size < W.heap.size → w.heap.size ∉ M → c.wpIn Fence.wide 0 P Q { a with defers := { target := .collected w.heap.size, args := #[] } :: a.defers } W) :
    (Code.rangeFunc g ps assign body).wpIn Fence.wide 0 P Q a w := by
  refine wpIn_rangeFunc ?_
  intro fn hfn
  rw [show Fence.wide.round = none from rfl]
  obtain ⟨rec, hrec⟩ : ∃ rec : LoopState → Option Code → Loop, rec = fun st pe => { state := st, pending := pe, fn, tmps := a.tmps, params := ps, assign, body, defers := w.heap.size } := ⟨_, rfl⟩
  obtain ⟨W1, hW1⟩ : ∃ W1, (w.alloc (.deferred (some []))).alloc (.loop (rec .ready none)) = W1 := ⟨_, rfl⟩
  have hm1 : Mod [] w W1 := by rw [← hW1]; exact ((Mod.refl _ _).alloc _).alloc _
  have hL1 : W1.heap[w.heap.size + 1]? = some (.loop (rec .ready none)) := by
    rw [← hW1]
    have := World.alloc_heap_new (w.alloc (.deferred (some []))) (.loop (rec .ready none))
    rwa [World.size_alloc] at this
  have hD1 : W1.heap[w.heap.size]? = some (.deferred (some [])) := by
    rw [← hW1]
    exact (Below.heap_alloc _ _ _ (by simp)).trans (World.alloc_heap_new w _)
  refine ⟨w.heap.size + 1, [{ target := .collected w.heap.size, args := #[] }], W1, { target := .fn (.func gf) lb, args := #[.func (.yield (w.heap.size + 1)) #[] #[]] }, W1, gf,
    #[.func (.yield (w.heap.size + 1)) #[] #[]] ++ lb, W1, ?_, ?_, fun _ _ => trivial, ?_, fun h => absurd h (by simp [Fence.wide]), ?_⟩
  · rw [← hW1, hrec]; exact run_enterLoop_outer _ _ _ _ _
  · simp only [resolve, hg]
    simp [go_sem]
  · simp [invoke, go_sem, eg]
  -- the invariant that the iterator sees
  let Own : List Nat → List Nat → World → Loop → Prop := fun M B W rc =>
    (∀ m, m ∈ M → m ∉ B ∧ IsCells W m ∧ ¬ K m) ∧ (∀ b, b ∈ B → n₀ ≤ b ∧ b < W.heap.size ∧ (b < w.heap.size → IsCells w b)) ∧
    W.heap[w.heap.size + 1]? = some (.loop rc) ∧ W.heap[w.heap.size]? = some (.deferred (some [])) ∧ w.heap.size + 1 ∉ B ∧ w.heap.size ∉ B ∧ (∀ (k : Nat) (o : Obj), w.heap[k]? = some o → o.isCells = false → W.heap[k]? = some o)
  have hlt : ∀ {M B : List Nat} {W : World} {rc : Loop}, Own M B W rc → w.heap.size + 1 < W.heap.size := fun h => (Array.getElem?_eq_some_iff.1 h.2.2.1).1
  have hnM : ∀ {M B : List Nat} {W : World} {rc : Loop}, Own M B W rc → w.heap.size + 1 ∉ M ∧ w.heap.size ∉ M := fun {M B W rc} h => by
    constructor
    · intro hm
      obtain ⟨o, ho, hc⟩ := (h.1 _ hm).2.1
      rw [h.2.2.1] at ho
      cases ho
      cases hc
    · intro hm
      obtain ⟨o, ho, hc⟩ := (h.1 _ hm).2.1
      rw [h.2.2.2.1] at ho
      cases ho
      cases hc
  -- the law's own steps on the record
  have hput : ∀ {M B : List Nat} {W : World} {rc : Loop} (rc' : Loop), Own M B W rc → Own M B (W.putObj (w.heap.size + 1) (.loop rc')) rc' := fun {M B W rc} rc' h => by
    have hl := hlt h
    have hn := hnM h
    refine ⟨fun m hm => ⟨(h.1 m hm).1, (h.1 m hm).2.1.mod (mod_putObj W _ _) (by simp; intro e; exact hn.1 (e ▸ hm)), (h.1 m hm).2.2⟩, fun b hb => ?_, World.putObj_heap_same hl, (World.putObj_heap_other (by omega)).trans h.2.2.2.1, h.2.2.2.2.1, h.2.2.2.2.2.1, fun k o hk ho => ?_⟩
    · have := h.2.1 b hb
      exact ⟨this.1, by simpa using this.2.1, this.2.2⟩
    · have : k < w.heap.size := (Array.getElem?_eq_some_iff.1 hk).1
      exact (World.putObj_heap_other (by omega)).trans (h.2.2.2.2.2.2 k o hk ho)
  -- a step of the body's
  have hstep : ∀ {M M' B : List Nat} {W W' : World} {rc : Loop}, Own M B W rc → Mod M W W' → NewIn M W M' W' → Own M' B W' rc := fun {M M' B W W' rc} h m hn => by
    have hl := hlt h
    have hnm := hnM h
    refine ⟨fun k hk => ?_, fun b hb => ?_, (m.heap h.2.2.1 hnm.1), (m.heap h.2.2.2.1 hnm.2), h.2.2.2.2.1, h.2.2.2.2.2.1, fun k o hk ho => ?_⟩
    · obtain ⟨h1, h2 | h2⟩ := hn k hk
      · exact ⟨(h.1 k h2).1, h1, (h.1 k h2).2.2⟩
      · exact ⟨fun e => by have := (h.2.1 k e).2.1; omega, h1, fun e => by have := hK k e; omega⟩
    · have := h.2.1 b hb
      exact ⟨this.1, Nat.lt_of_lt_of_le this.2.1 m.size, this.2.2⟩
    · refine m.heap (h.2.2.2.2.2.2 k o hk ho) (fun e => ?_)
      obtain ⟨o', ho', hc⟩ := (h.1 k e).2.1
      rw [h.2.2.2.2.2.2 k o hk ho] at ho'
      cases ho'
      rw [ho] at hc
      cases hc
  have hTl : ∀ {M B : List Nat} {W : World} {rc : Loop}, Own M B W rc → ∀ t, t ∈ [w.heap.size + 1] → t ∉ M ∧ n₀ ≤ t := fun h t ht => by
    simp only [List.mem_singleton] at ht
    subst ht
    exact ⟨(hnM h).1, by omega⟩
  refine (hseq (w.heap.size + 1) (fun pre B W => ∃ M, Fc pre M W ∧ Own M B W (rec .ready none)) (fun pre W => ∃ c M B, Fx c pre M W ∧ Own M B W (rec .done (some c))) W1 hm1 ?_ ?_ ?_).mono ?_
  · -- the iterator's steps
    rintro s B B' A A' ⟨M, hf, ho⟩ hm hsub hnew
    have hl := hlt ho
    refine ⟨M, hFc s M A A' B hf hm (fun t ht => ⟨fun e => (ho.1 t e).1 ht, (ho.2.1 t ht).1⟩), fun k hk => ⟨fun e => ?_, (ho.1 k hk).2.1.mod hm (ho.1 k hk).1, (ho.1 k hk).2.2⟩, fun b hb => ?_, hm.heap ho.2.2.1 ho.2.2.2.2.1, hm.heap ho.2.2.2.1 ho.2.2.2.2.2.1, fun e => ?_, fun e => ?_, fun k o hk hc => ?_⟩
    · rcases hnew k e with h | h
      · exact (ho.1 k hk).1 h
      · have := (ho.1 k hk).2.1.lt
        omega
    · rcases hnew b hb with h | h
      · have := ho.2.1 b h
        exact ⟨this.1, Nat.lt_of_lt_of_le this.2.1 hm.size, this.2.2⟩
      · exact ⟨by omega, h.2, fun _ => by omega⟩
    · rcases hnew _ e with h | h
      · exact ho.2.2.2.2.1 h
      · omega
    · rcases hnew _ e with h | h
      · exact ho.2.2.2.2.2.1 h
      · omega
    · refine hm.heap (ho.2.2.2.2.2.2 k o hk hc) (fun e => ?_)
      obtain ⟨o', ho', hc'⟩ := (ho.2.1 k e).2.2 (Array.getElem?_eq_some_iff.1 hk).1
      rw [hk] at ho'
      cases ho'
      rw [hc] at hc'
      cases hc'
  · -- one round
    rintro pre B x W ⟨M, hf, ho⟩ hlen
    have hy := run_yield (P := P) (args := encs x) ho.2.2.1 (by rw [hrec]; exact hps x)
    rw [hrec] at hy
    refine ⟨fn, _, assign, body, hy, roundIn_of_wpIn trivial (hassign _ pre x M W _ hf ?_)⟩
    intro a' M' W' hfa hma hna
    have ho' := hstep ho hma hna
    refine ⟨_, run_beginRound ho'.2.2.1 (by rw [hrec]), ?_⟩
    have ho2 := hput { rec .ready none with state := .busy } ho'
    have hfa2 := hFa _ _ _ _ _ _ _ hfa (mod_putObj W' (w.heap.size + 1) (.loop { rec .ready none with state := .busy })) (hTl ho')
    have kp2 : Kp B K W (W'.putObj (w.heap.size + 1) (.loop { rec .ready none with state := .busy })) := by
      refine ⟨by simpa using hma.size, fun k hk hb => ?_⟩
      have hl := hlt ho
      have hnl : k ≠ w.heap.size + 1 := by
        rintro rfl
        rcases hb with hb | hb
        · exact ho.2.2.2.2.1 hb
        · have := hK _ hb; omega
      refine (World.putObj_heap_other hnl).trans (hma.block k hk (fun e => ?_))
      rcases hb with hb | hb
      · exact (ho.1 k e).1 hb
      · exact (ho.1 k e).2.2 hb
    refine wpIn_mono (hbody _ pre x a' M' _ hfa2 hlen) ?_
    have fin : ∀ (jump : Option Code) (M3 : List Nat) (W3 : World), Mod M' (W'.putObj (w.heap.size + 1) (.loop { rec .ready none with state := .busy })) W3 → NewIn M' (W'.putObj (w.heap.size + 1) (.loop { rec .ready none with state := .busy })) M3 W3 →
        (Instr.endRound (w.heap.size + 1) jump).run P W3 = .ok (.bool jump.isNone) (W3.putObj (w.heap.size + 1) (.loop (rec (if jump.isNone then .ready else .done) jump))) ∧
        Own M3 B (W3.putObj (w.heap.size + 1) (.loop (rec (if jump.isNone then .ready else .done) jump))) (rec (if jump.isNone then .ready else .done) jump) ∧
        Mod [w.heap.size + 1] W3 (W3.putObj (w.heap.size + 1) (.loop (rec (if jump.isNone then .ready else .done) jump))) ∧ (∀ t, t ∈ [w.heap.size + 1] → t ∉ M3 ∧ n₀ ≤ t) ∧
        Kp B K W (W3.putObj (w.heap.size + 1) (.loop (rec (if jump.isNone then .ready else .done) jump))) := fun jump M3 W3 hm3 hn3 => by
      have ho3 := hstep ho2 hm3 hn3
      have hr := run_endRound (P := P) jump ho3.2.2.1
      have e1 : ({ ({ rec .ready none with state := .busy } : Loop) with state := if jump.isNone then .ready else .done, pending := jump } : Loop) = rec (if jump.isNone then .ready else .done) jump := by rw [hrec]
      rw [e1] at hr
      refine ⟨hr, hput _ ho3, mod_putObj _ _ _, hTl ho3, ?_⟩
      refine ⟨by have := kp2.1; have := hm3.size; simp at *; omega, fun k hk hb => ?_⟩
      have hnl : k ≠ w.heap.size + 1 := by
        rintro rfl
        have hl := hlt ho
        rcases hb with hb | hb
        · exact ho.2.2.2.2.1 hb
        · have := hK _ hb; omega
      refine (World.putObj_heap_other hnl).trans ((hm3.block k (by have := kp2.1; omega) (fun e => ?_)).trans (kp2.2 k hk hb))
      rcases hb with hb | hb
      · exact (ho2.1 k e).1 hb
      · exact (ho2.1 k e).2.2 hb
    rintro e a3 W3 hp
    cases e with
    | normal =>
      obtain ⟨M3, hf3, hm3, hn3⟩ := hp
      obtain ⟨hr, ho4, hm4, ht4, hk4⟩ := fin none M3 W3 hm3 hn3
      exact ⟨_, _, hr, .inl ⟨rfl, ⟨M3, hFc _ _ _ _ _ hf3 hm4 ht4, ho4⟩, hk4⟩⟩
    | ret =>
      obtain ⟨M3, hf3, hm3, hn3⟩ := hp
      obtain ⟨hr, ho4, hm4, ht4, hk4⟩ := fin (some .ret) M3 W3 hm3 hn3
      exact ⟨_, _, hr, .inr ⟨rfl, .ret, M3, B, hFx _ _ _ _ _ _ hf3 hm4 ht4, ho4⟩⟩
    | exit id =>
      obtain ⟨M3, hf3, hm3, hn3⟩ := hp
      obtain ⟨hr, ho4, hm4, ht4, hk4⟩ := fin (some (.exit id)) M3 W3 hm3 hn3
      exact ⟨_, _, hr, .inr ⟨rfl, .exit id, M3, B, hFx _ _ _ _ _ _ hf3 hm4 ht4, ho4⟩⟩
    | goto t =>
      obtain ⟨M3, hf3, hm3, hn3⟩ := hp
      obtain ⟨hr, ho4, hm4, ht4, hk4⟩ := fin (some (.goto t)) M3 W3 hm3 hn3
      exact ⟨_, _, hr, .inr ⟨rfl, .goto t, M3, B, hFx _ _ _ _ _ _ hf3 hm4 ht4, ho4⟩⟩
    | panic ch => exact hp.elim
    | outgrown => exact hp.elim
  · -- at the start
    refine ⟨M0, hFc _ _ _ _ _ h0 hm1 (by simp), fun m hm => ⟨(hM0 m hm).2.1, (hM0 m hm).1.mod hm1 (by simp), (hM0 m hm).2.2⟩, fun b hb => ⟨(hB0 b hb).1, Nat.lt_of_lt_of_le (hB0 b hb).2.lt hm1.size, fun _ => (hB0 b hb).2⟩, hL1, hD1, fun e => ?_, fun e => ?_, fun k o hk _ => hm1.heap hk (by simp)⟩
    · have := (hB0 _ e).2.lt; omega
    · have := (hB0 _ e).2.lt; omega
  · -- behind the iterator
    have hfin : ∀ {M B : List Nat} {W : World} {rc : Loop} (rc' : Loop), Own M B W rc → OldKept w (W.putObj (w.heap.size + 1) (.loop rc')) ∧ (W.putObj (w.heap.size + 1) (.loop rc')).heap[w.heap.size]? = some (.deferred (some [])) ∧ w.heap.size < (W.putObj (w.heap.size + 1) (.loop rc')).heap.size ∧ w.heap.size ∉ M := fun rc' h => by
      have h2 := hput rc' h
      have := hlt h2
      exact ⟨h2.2.2.2.2.2.2, h2.2.2.2.1, by omega, (hnM h).2⟩
    rintro e W2 ⟨⟨v, rfl⟩, (⟨xs, B, hS, M, hf, ho⟩ | ⟨pre, hSp, c, M, B, hf, ho⟩)⟩
    · exact ⟨none, _, by have := run_endLoop (P := P) ho.2.2.1 (by rw [hrec]; simp); rw [hrec] at this; exact this, hdone xs M _ hS (hFc _ _ _ _ _ hf (mod_putObj _ _ _) (hTl ho)) (hfin _ ho).1 (hfin _ ho).2.1 (hfin _ ho).2.2.1 (hnM ho).2⟩
    · exact ⟨some c, _, by have := run_endLoop (P := P) ho.2.2.1 (by rw [hrec]; simp); rw [hrec] at this; exact this, hstop c pre M _ hSp (hFx _ _ _ _ _ _ hf (mod_putObj _ _ _) (hTl ho)) (hfin _ ho).1 (hfin _ ho).2.1 (hfin _ ho).2.2.1 (hnM ho).2⟩
/-- The law, outside a fence. -/
theorem rf_wp {α : Type} {P : Program} {g : Operand} {ps : Array Tmp} {assign body : Code} {Q : Exit → Act → World → Prop} {a : Act} {w : World}
    {gf : Nat} {lb : Array Value} (hg : a.eval g = .func (.func gf) #[] lb) (eg : ∀ args w, (callFunc gf args).run P w = .ok (.enter gf args) w)
    {encs : α → Array Value} (hps : ∀ x, (encs x).size = ps.size) {K : Nat → Prop} {S Sp : List α → Prop} {Px : List α → α → Prop} {B0 : List Nat} (hseq : Iter P gf lb encs K S Sp Px B0 w)
    (n₀ : Nat) (hn₀ : n₀ ≤ w.heap.size) (hK : ∀ k, K k → k < w.heap.size) (hB0 : ∀ b, b ∈ B0 → n₀ ≤ b ∧ IsCells w b)
    (Fc : List α → List Nat → World → Prop) (Fx : Code → List α → List Nat → World → Prop) (Fa : List α → α → Act → List Nat → World → Prop)
    (hFc : ∀ s M A A' T, Fc s M A → Mod T A A' → (∀ t, t ∈ T → t ∉ M ∧ n₀ ≤ t) → Fc s M A')
    (hFx : ∀ c s M A A' T, Fx c s M A → Mod T A A' → (∀ t, t ∈ T → t ∉ M ∧ n₀ ≤ t) → Fx c s M A')
    (hFa : ∀ s x a' M A A' T, Fa s x a' M A → Mod T A A' → (∀ t, t ∈ T → t ∉ M ∧ n₀ ≤ t) → Fa s x a' M A')
    (M0 : List Nat) (h0 : Fc [] M0 w) (hM0 : ∀ m, m ∈ M0 → IsCells w m ∧ m ∉ B0 ∧ ¬ K m)
    (hassign : ∀ (l : Nat) (pre : List α) (x : α) (M : List Nat) (W : World) (Kk : Act → World → Prop), Fc pre M W → (∀ a' M' W', Fa pre x a' M' W' → Mod M W W' → NewIn M W M' W' → Kk a' W') →
      assign.wpIn (Fence.wide.inRound l) 0 P (Exit.then Kk (fun _ _ _ => False)) { tmps := (ps.zip (encs x)).foldl (fun t (p, v) => t.setIfInBounds p v) a.tmps, defers := [] } W)
    (hbody : ∀ (l : Nat) (pre : List α) (x : α) (a' : Act) (M : List Nat) (W : World), Fa pre x a' M W → Px pre x → body.wpIn (Fence.wide.inRound l) 0 P (rfPost Fc Fx M W (pre ++ [x])) a' W)
    (hdone : ∀ (xs : List α) (M : List Nat) (W : World), S xs → Fc xs M W → OldKept w W → W.heap[w.heap.size]? = some (.deferred (some [])) → w.heap.size < W.heap.size → w.heap.size ∉ M → Q .normal { a with defers := { target := .collected w.heap.size, args := #[] } :: a.defers } W)
    (hstop : ∀ (c : Code) (pre : List α) (M : List Nat) (W : World), Sp pre → Fx c pre M W → OldKept w W → W.heap[w.heap.size]? = some (.deferred (some [])) → w.heap.size < W.heap.size → w.heap.size ∉ M → c.wp P Q { a with defers := { target := .collected w.heap.size, args := #[] } :: a.defers } W) :
    (Code.rangeFunc g ps assign body).wp P Q a w :=
  (wpIn_wide (n := 0)).1 (rf_law hg eg hps hseq n₀ hn₀ hK hB0 Fc Fx Fa hFc hFx hFa M0 h0 hM0 hassign hbody hdone (fun c pre M W h1 h2 h3 h4 h5 h6 => wpIn_wide.2 (hstop c pre M W h1 h2 h3 h4 h5 h6)))
theorem calls_of_wp_marks {P : Program} {f : FuncId} {fn : Func} {c : Code} {args : Array Value} {w : World} {R : Ending → World → Prop}
    (hf : P.funcs[f]? = some fn) (hb : fn.body = some c)
    (h : c.wp P (bodyPostM Fence.wide 0 P fn R) { tmps := args ++ Array.replicate (fn.ntmps - args.size) undef, defers := [] } w) : Calls P f args w R :=
  (callsIn_wide (n := 0)).1 (callsIn_of_wp_marks hf hb trivial (wpIn_wide.2 h) rfl)
theorem boxMod {W W' : World} {B : Nat} {t : TypeId} {v : Value} {S : List Nat} (h : Boxed W B t v) (m : Mod S W W') (hs : B ∉ S) : Boxed W' B t v := m.heap h hs
theorem boxCells {W : World} {B : Nat} {t : TypeId} {v : Value} (h : Boxed W B t v) : IsCells W B := ⟨_, h, rfl⟩
theorem boxAt {W : World} {B : Nat} {t : TypeId} {v : Value} (hB : W.heap.size = B) : Boxed (W.alloc (.cells #[v] t)) B t v := by subst hB; exact Boxed.new W t v

/-! ### A region that draws its order, in a round -/
def noDeferB (l : List Oper) : Bool := l.all fun o => match o.op with
  | .defer _ => false
  | _ => true
theorem noDefer_of {l : List Oper} (h : noDeferB l = true) : ∀ o, o ∈ l → ∀ c, o.op ≠ .defer c := by
  intro o ho c e
  have := List.all_eq_true.1 h o ho
  simp [e] at this
theorem upon_round {P : Program} {o : Oper} {a : Act} {next : Act → World → Prop} {Q : Exit → Act → World → Prop} {l : Nat} {r : Result Next} (h : o.upon P a next Q r) : o.uponIn (Fence.wide.inRound l) 0 P a next Q r := by
  have hd : ¬ (Fence.wide.inRound l).depth.isSome = true := by simp [Fence.wide]
  cases r with
  | ok x w' =>
    cases x with
    | value v => exact h
    | skip => exact h
    | defer d => exact h
    | enter f args => exact ⟨fun e => absurd e hd, (callsIn_wide.2 h).inRound l⟩
    | row row args => exact ⟨fun e => absurd e hd, fun c cs _ => by
        obtain ⟨v, w2, h1, h2⟩ := h c cs
        exact ⟨v, w2, h1, stepsIn_wide.2 h2⟩⟩
    | round => exact h.elim
    | _ => exact h.elim
  | halt x w' =>
    cases x with
    | panic v => exact h
    | _ => exact h.elim
theorem round_op {P : Program} {ops : Array Oper} {Q : Exit → Act → World → Prop} {l i : Nat} {K K' : Act → World → Prop} {a : Act} {w : World} (hn : ∀ o, o ∈ ops.toList → ∀ c, o.op ≠ .defer c)
    (hL : ¬ LetsOut Q) (hk : ∀ a w, K a w → K' a w) (h : wpOp P ops Q i K a w) : wpOpIn (Fence.wide.inRound l) 0 P ops Q i K' a w := by
  unfold wpOp at h
  unfold wpOpIn
  cases ho : ops[i]? with
  | none => simp only [ho] at h ⊢; exact hk _ _ h
  | some o =>
    simp only [ho] at h ⊢
    have hm : o ∈ ops.toList := by
      rw [← Array.mem_def]
      exact Array.mem_of_getElem? ho
    split
    · rename_i hw
      simp only [hw, if_true] at h
      refine ⟨fun _ _ => trivial, ?_⟩
      rw [Oper.semAt_eq _ _ _ (hn o hm)]
      exact upon_round (Oper.wp_mono hk (h.resolve_right (fun e => hL e.2)))
    · rename_i hw
      simp only [hw] at h
      exact ⟨fun _ _ => trivial, hk _ _ h⟩
theorem round_any {P : Program} {ops : Array Oper} {Q : Exit → Act → World → Prop} {md : Region.Mode} {l : Nat} (hn : ∀ o, o ∈ ops.toList → ∀ c, o.op ≠ .defer c) (hL : ¬ LetsOut Q) :
    ∀ (fuel : Nat) (listed : Array Bool) (a : Act) (w : World), wpAny P md ops Q fuel listed a w → wpAnyIn (Fence.wide.inRound l) 0 P md ops Q fuel listed a w
  | 0, _, _, _, h => h
  | fuel + 1, listed, a, w, h => ⟨h.1, fun i hi => round_op hn hL (round_any hn hL fuel _) (h.2 i hi)⟩
/-- A region that draws its order, in a round: as outside. -/
theorem wpIn_region_round {P : Program} {k id : Nat} {Q : Exit → Act → World → Prop} {a : Act} {w : World} {l : List Oper} (hn : noDeferB l = true) (hL : ¬ LetsOut Q) (hm : P.follows .mixedOrders = true)
    (h : wpAny P .any l.toArray Q l.toArray.size (Array.replicate l.toArray.size false) a { w with drawn := w.drawn + 1 }) : (Code.region id l.toArray true).wpIn (Fence.wide.inRound k) 0 P Q a w :=
  wpIn_region_any hm (round_any (by simpa using noDefer_of hn) hL _ _ _ _ h)
/-- A region that only reads, in a round: one walk, in the order of the text. -/
theorem wpIn_region_quiet_round {P : Program} {k id : Nat} {Q : Exit → Act → World → Prop} {a : Act} {w : World} {l : List Oper} (hn : noDeferB l = true) (hL : ¬ LetsOut Q) (hm : P.follows .mixedOrders = true) (hB : Region.lexB .any l.toArray = true)
    (h : wpQuiet P l.toArray (fun w' => ∃ n, w' = w.drewN n) (fun a' => ∀ w', (∃ n, w' = w.drewN n) → Q .normal a' w') l a) : (Code.region id l.toArray true).wpIn (Fence.wide.inRound k) 0 P Q a w := by
  simp only [Region.lexB, Bool.and_eq_true] at hB
  refine wpIn_region_round hn hL hm (wpAny_of_quiet (C := fun w' => ∃ n, w' = w.drewN n) (Q := fun a' => ∀ w', (∃ n, w' = w.drewN n) → Q .normal a' w') (fun _ w' hw' h => h w' hw') _ _ _ _ ⟨1, rfl⟩ ?_)
  have := wpAnyQ_lex (C := fun w' => ∃ n, w' = w.drewN n) (md := .any) hB.1 l 0 (Array.replicate l.length false) a (by simp) (by simpa using hB.2) h
  simpa using this
theorem round_list {P : Program} {ops : Array Oper} {Q : Exit → Act → World → Prop} {k : Nat} (hL : ¬ LetsOut Q) :
    ∀ (l : List Oper) (a : Act) (w : World), (∀ o, o ∈ l → ∀ c, o.op ≠ .defer c) → wpList P ops Q l a w → wpListIn (Fence.wide.inRound k) 0 P ops Q l a w
  | [], _, _, _, h => h
  | o :: rest, a, w, hn, h => by
    have ih := fun a w => round_list (P := P) (ops := ops) (k := k) hL rest a w (fun o ho => hn o (List.mem_cons_of_mem _ ho))
    unfold wpList at h
    unfold wpListIn
    split
    · rename_i hw
      simp only [hw, if_true] at h
      refine ⟨fun _ _ => trivial, ?_⟩
      rw [Oper.semAt_eq _ _ _ (hn o (List.mem_cons_self ..))]
      exact upon_round (Oper.wp_mono ih (h.resolve_right (fun e => hL e.2)))
    · rename_i hw
      simp only [hw] at h
      exact ⟨fun _ _ => trivial, ih _ _ h⟩
/-- A region in the order of the text, in a round: as outside. -/
theorem wpIn_list_round {P : Program} {k id : Nat} {Q : Exit → Act → World → Prop} {a : Act} {w : World} {l : List Oper} (hn : noDeferB l = true) (hL : ¬ LetsOut Q)
    (h : wpList P l.toArray Q l a w) : (Code.region id l.toArray false).wpIn (Fence.wide.inRound k) 0 P Q a w :=
  wpIn_region_lit (round_list hL l a w (noDefer_of hn) h)
/-- A loop, what follows a round under a name. -/
theorem wp_loop_k {P : Program} {c : Code} {Q : Exit → Act → World → Prop} {a : Act} {w : World} (I : Act → World → Prop) (μ : Act → World → Nat) (h₀ : I a w)
    (round : ∀ a w, I a w → ∀ K : Act → World → Prop, (∀ a' w', I a' w' → μ a' w' < μ a w → K a' w') → c.wp P (Exit.then K Q) a w) : (Code.loop c).wp P Q a w :=
  wp_loop I μ h₀ (fun a w h => round a w h _ (fun _ _ h1 h2 => ⟨h1, h2⟩))
/-- A piece of code that is left by its end alone. -/
theorem wp_calm {P : Program} {c : Code} {K : Act → World → Prop} {Q : Exit → Act → World → Prop} {a : Act} {w : World} (h : c.wp P (Exit.then K (fun _ _ _ => False)) a w) : c.wp P (Exit.then K Q) a w :=
  wp_mono h (fun e a w q => by cases e <;> first | exact q | exact q.elim)
/-- The marks that loops over functions have left. -/
inductive Marks (n₀ : Nat) : List Deferred → World → Prop
  | nil {W : World} : Marks n₀ [] W
  | cons {W : World} {ds : List Deferred} {D : Nat} : n₀ ≤ D → W.heap[D]? = some (.deferred (some [])) → (∀ d, d ∈ ds → d.target ≠ .collected D) → Marks n₀ ds W → Marks n₀ ({ target := .collected D, args := #[] } :: ds) W
theorem Marks.keep {n₀ : Nat} {ds : List Deferred} {W W' : World} (h : Marks n₀ ds W) (k : ∀ (D : Nat), W.heap[D]? = some (.deferred (some [])) → (∃ d, d ∈ ds ∧ d.target = .collected D) → W'.heap[D]? = some (.deferred (some []))) : Marks n₀ ds W' := by
  induction h with
  | nil => exact .nil
  | cons h1 h2 h3 h4 ih =>
    exact .cons h1 (k _ h2 ⟨_, List.mem_cons_self .., rfl⟩) h3 (ih (fun D hD ⟨d, hd, ht⟩ => k D hD ⟨d, List.mem_cons_of_mem _ hd, ht⟩))
theorem Marks.lt {n₀ : Nat} {ds : List Deferred} {W : World} (h : Marks n₀ ds W) : ∀ d, d ∈ ds → ∀ D, d.target = .collected D → D < W.heap.size := by
  induction h with
  | nil => intro d hd; cases hd
  | cons h1 h2 h3 h4 ih =>
    intro d hd D ht
    rcases List.mem_cons.1 hd with e | e
    · subst e; cases ht; exact (Array.getElem?_eq_some_iff.1 h2).1
    · exact ih d e D ht
theorem leaves_marks {n₀ : Nat} {P : Program} {fn : Func} {tmps : Array Value} {R : Ending → World → Prop} : ∀ (ds : List Deferred) (W : World), Marks n₀ ds W →
    (∀ (W' : World) (T : List Nat), Mod T W W' → (∀ t, t ∈ T → n₀ ≤ t ∧ W.heap[t]? = some (.deferred (some []))) → LeavesIn Fence.wide 0 P fn tmps R [] .returning W') → LeavesInM Fence.wide 0 P fn tmps R ds .returning W
  | [], W, _, h => h W [] (Mod.refl _ _) (by simp)
  | _ :: ds, W, .cons (D := D) h1 h2 h3 h4, h => by
    refine ⟨by simp, .inl ⟨_, _, rfl, run_takeDeferred h2, ?_⟩⟩
    have hm := mod_putObj W D (.deferred none)
    refine leaves_marks ds _ (h4.keep (fun D' hD' ⟨d, hd, ht⟩ => hm.heap hD' (fun e => by
      simp only [List.mem_singleton] at e
      subst e
      exact h3 d hd ht))) (fun W' T hT hd => ?_)
    refine h W' (D :: T) ((hm.mono (by simp)).trans (hT.mono (fun x hx => List.mem_cons_of_mem _ hx))) (fun t ht => ?_)
    rcases List.mem_cons.1 ht with e | e
    · subst e; exact ⟨h1, h2⟩
    · refine ⟨(hd t e).1, ?_⟩
      have := (hd t e).2
      by_cases e2 : t = D
      · subst e2; exact h2
      · rwa [World.putObj_heap_other e2] at this
theorem quiet_roC {P : Program} {f : FuncId} {args : Array Value} {w : World} {c n : Nat} {v : Value}
    (h : Calls P f args (w.drewN (c + n)) fun e w' => e = .returned v ∧ w.drewN (c + n) = w') : Calls P f args (w.drewN (c + n)) fun e w'' => e = .returned v ∧ ∃ m, w'' = w.drewN (c + m) :=
  h.mono fun _ _ ⟨he, hm⟩ => ⟨he, n, hm.symm⟩
theorem wide_fn (f : FuncId) : Fence.wide.fn f = True := rfl
theorem quietIn_ro {r : Nat} {P : Program} {f : FuncId} {args : Array Value} {w : World} {n : Nat} {v : Value}
    (h : Calls P f args (w.drewN n) fun e w' => e = .returned v ∧ w.drewN n = w') : CallsIn Fence.wide r P f args (w.drewN n) fun e w'' => e = .returned v ∧ ∃ m, w'' = w.drewN m :=
  callsIn_wide.2 (h.mono fun _ _ ⟨he, hm⟩ => ⟨he, n, hm.symm⟩)
end Go.Proofs.YtijjbkkcienfgaaDoor
