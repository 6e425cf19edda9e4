/- Who recovers whom: the program's map. No condition beyond what stands in each. The program's service in memory. No condition beyond what stands in each. -/
import Derived.Test.YtijjbkkcienfgaaDoorGr8
import Derived.Maps.OwnSet
import Derived.Maps.Ext
namespace Go.Proofs.YtijjbkkcienfgaaDoor
open Go.RowKit
open Go.Maps (Keyed IsMap)
set_option linter.unusedVariables false
set_option linter.unusedSimpArgs false

theorem law3 : Keyed Tryd.prog 3 := Go.Maps.int_keyed Tryd.underlying3
theorem zero3 (w : World) : (zeroValue 3).run Tryd.prog w = .ok (.int .i64 0) w := by kernel_rfl
theorem nodup_lt : ∀ (n : Nat) (l : List Nat), l.Nodup → (∀ x ∈ l, x < n) → l.length ≤ n
  | 0, l, _, h => by
    cases l with
    | nil => simp
    | cons a r => exact absurd (h a (by simp)) (by omega)
  | n + 1, l, hd, h => by
    by_cases m : n ∈ l
    · have e := List.length_erase_of_mem m
      have := nodup_lt n (l.erase n) (hd.erase n) fun x hx => by
        have h1 := (List.Nodup.mem_erase_iff hd).mp hx
        have := h x h1.2
        have := h1.1
        omega
      omega
    · have := nodup_lt n l hd fun x hx => by
        have := h x hx
        have : x ≠ n := fun e => m (e ▸ hx)
        omega
      omega
structure ByD (D : DataW Unit) (bb : Nat → Int) : Prop where
  isMap : Go.Maps.Canon D
  dom : ∀ kl, Go.Maps.has D kl = true → ∃ i : Nat, i < 8 ∧ kl = .int .i64 i
  has : ∀ i : Nat, i < 8 → Go.Maps.has D (.int .i64 i) = decide (0 ≤ bb i)
  at_ : ∀ i : Nat, i < 8 → 0 ≤ bb i → ∀ z, D.atKey (.int .i64 i) z = .lit (.int .i64 (bb i))
theorem byd_new : ByD (.map []) (fun _ => -1) :=
  ⟨Go.Maps.canon_empty, fun kl h => absurd h (by simp [Go.Maps.has]), fun i hi => rfl, fun i hi h => absurd h (by omega)⟩
theorem key_i (i : Nat) (hi : i < 8) : WideAt.IsKeyLit (.int .i64 i) := law3.key (Go.Maps.keyOf_int_mk Tryd.underlying3 (q := .i64) (a := i) (by
  match i, hi with
  | 0, _ | 1, _ | 2, _ | 3, _ | 4, _ | 5, _ | 6, _ | 7, _ => decide))
theorem key_of (i : Nat) (hi : i < 8) : Go.keyOf Tryd.prog 3 (.int .i64 i) = some (.int .i64 i) := Go.Maps.keyOf_int_mk Tryd.underlying3 (q := .i64) (a := i) (by
  match i, hi with
  | 0, _ | 1, _ | 2, _ | 3, _ | 4, _ | 5, _ | 6, _ | 7, _ => decide)
theorem lit_ne {i j : Nat} (h : i ≠ j) : (Lit.int .i64 i) ≠ .int .i64 j := fun e => by
  simp only [Lit.int.injEq, true_and] at e
  omega
theorem byd_put {D : DataW Unit} {bb : Nat → Int} (h : ByD D bb) {o : Nat} (ho : o < 8) {c : Int} (hc : 0 ≤ c) {D' : DataW Unit} (hD : D' = D.put (.int .i64 o) (.lit (.int .i64 c))) (ht : Go.Maps.Canon D') : ByD D' (upd bb o c) := by
  subst hD
  have hm : IsMap D := by obtain ⟨es, e, _⟩ := h.isMap; exact ⟨es, e⟩
  refine ⟨ht, fun kl hk => ?_, fun i hi => ?_, fun i hi hb z => ?_⟩
  · by_cases e : kl = .int .i64 o
    · exact ⟨o, ho, e⟩
    · rw [Go.Maps.has_put_other e] at hk
      exact h.dom kl hk
  · unfold upd
    by_cases e : i = o
    · subst e
      rw [Go.Maps.has_put_same hm (key_i i hi), if_pos rfl, decide_eq_true hc]
    · rw [Go.Maps.has_put_other (lit_ne e), if_neg e]
      exact h.has i hi
  · unfold upd at hb ⊢
    by_cases e : i = o
    · subst e
      rw [Go.Maps.atKey_put_same hm (key_i i hi), if_pos rfl]
    · rw [Go.Maps.atKey_put_other (lit_ne e), if_neg e]
      rw [if_neg e] at hb
      exact h.at_ i hi hb z
theorem byd_del {D : DataW Unit} {bb : Nat → Int} (h : ByD D bb) {o : Nat} {D' : DataW Unit} (hD : D' = D.del (.int .i64 o)) (ht : Go.Maps.Canon D') : ByD D' (upd bb o (-1)) := by
  subst hD
  refine ⟨ht, fun kl hk => ?_, fun i hi => ?_, fun i hi hb z => ?_⟩
  · by_cases e : kl = .int .i64 o
    · subst e
      rw [Go.Maps.has_del_same] at hk
      cases hk
    · rw [Go.Maps.has_del_other e] at hk
      exact h.dom kl hk
  · unfold upd
    by_cases e : i = o
    · subst e
      rw [Go.Maps.has_del_same, if_pos rfl]
      rfl
    · rw [Go.Maps.has_del_other (lit_ne e), if_neg e]
      exact h.has i hi
  · unfold upd at hb ⊢
    by_cases e : i = o
    · rw [if_pos e] at hb
      omega
    · rw [Go.Maps.atKey_del_other (lit_ne e), if_neg e]
      rw [if_neg e] at hb
      exact h.at_ i hi hb z
def litN : Lit → Nat
  | .int _ i => i.toNat
  | _ => 0
theorem byd_size {D : DataW Unit} {bb : Nat → Int} (h : ByD D bb) : Go.Maps.size D ≤ 8 := by
  obtain ⟨es, rfl, hp0, hk⟩ := h.isMap
  have hp := Go.Maps.apart_of_rising hp0
  have dom : ∀ p ∈ es, ∃ i : Nat, i < 8 ∧ p.1 = .int .i64 i := fun p hpm => by
    exact h.dom p.1 (List.any_eq_true.2 ⟨p, hpm, WideAt.sameKey_self (hk p hpm)⟩)
  have := nodup_lt 8 (es.map fun p => litN p.1) (by
    rw [List.nodup_iff_pairwise_ne, List.pairwise_map]
    refine hp.imp_of_mem fun {p q} hp1 hq1 hne e => ?_
    obtain ⟨i, _, e1⟩ := dom p hp1
    obtain ⟨j, _, e2⟩ := dom q hq1
    rw [e1, e2] at e
    have e : i = j := by simpa [litN] using e
    exact hne (by rw [e1, e2, e])) (fun x hx => by
    obtain ⟨p, hpm, rfl⟩ := List.mem_map.mp hx
    obtain ⟨i, hi, e⟩ := dom p hpm
    rw [e]
    simpa [litN] using hi)
  simpa [Go.Maps.size] using this
/-- Block b is the map of who recovers whom. -/
def ByI (w : World) (b : Nat) (bb : Nat → Int) : Prop := ∃ D, w.ownsMap Tryd.prog 3 (plainElem (H := Unit) Tryd.prog 3) b 8 D ∧ ByD D bb
theorem own_fit {w : World} {b n m : Nat} {D : DataW Unit} (h : w.ownsMap Tryd.prog 3 (plainElem (H := Unit) Tryd.prog 3) b n D) (hm : Go.Maps.size D ≤ m) : w.ownsMap Tryd.prog 3 (plainElem (H := Unit) Tryd.prog 3) b m D := by
  obtain ⟨es, clock, hb, F, hs, rfl⟩ := h
  exact ⟨es, clock, hb, F, by simpa [Go.Maps.size, Go.length_sorted] using hm, rfl⟩
namespace ByI
variable {w w' : World} {b : Nat} {bb : Nat → Int}
theorem lt (h : ByI w b bb) : b < w.heap.size := by obtain ⟨D, h, _⟩ := h; exact h.lt
theorem mod {S : List Nat} (h : ByI w b bb) (m : Mod S w w') (hs : b ∉ S) : ByI w' b bb := by
  have hl := h.lt
  obtain ⟨D, ⟨es, clock, hb, r⟩, d⟩ := h
  exact ⟨D, ⟨es, clock, (m.block b hl hs).trans hb, r⟩, d⟩
theorem new (w : World) : ByI (w.alloc (.map #[] 0)) w.heap.size (fun _ => -1) :=
  ⟨_, (World.ownsMap_made w _ _ _).mono (Nat.zero_le _), byd_new⟩
theorem notArr {t : TypeId} {n : Nat} {f : Nat → Value} {k : Nat} (h : ByI w b bb) (hA : Arr w k t n f) : b ≠ k := fun e => by
  obtain ⟨D, ⟨es, clock, hb, r⟩, d⟩ := h
  subst e
  obtain ⟨cs, f1, _⟩ := hA
  rw [f1] at hb
  cases hb
theorem notOwn {base e n sz : Nat} {v : Value} {xs : List Value} (h : ByI w b bb) (ho : w.ownsRow base e sz v n xs) : b ∉ v.ownBlock.toList := by
  intro hx
  obtain ⟨D, ⟨es, clock, hb, r⟩, d⟩ := h
  obtain ⟨_, h1 | ⟨g', cap', cur, e1, _, e2, _⟩⟩ := ho
  · rw [h1.1] at hx; simp [Value.ownBlock] at hx
  · rw [e1] at hx
    simp [Value.ownBlock] at hx
    subst hx
    rw [e2] at hb
    cases hb
theorem look (h : ByI w b bb) {o : Nat} (ho : o < 8) : ∃ v, (Instr.lookup 45 (.map (some b)) (.int .i64 o) true).run Tryd.prog w = .ok (.tuple #[.int .i64 v, .bool (decide (0 ≤ bb o))]) w ∧ (0 ≤ bb o → v = bb o) := by
  obtain ⟨D, h, d⟩ := h
  obtain ⟨v, ps, hr, hv⟩ := h.look_ok law3 Tryd.underlying45 (zero3 w) (plainElem_int Tryd.underlying3 (q := .i64) (a := 0) (by decide)) (key_of o ho)
  obtain ⟨c, rfl, hz, _⟩ := plainElem_int_inv Tryd.underlying3 hv
  rw [d.has o ho] at hr
  refine ⟨c, hr, fun hb => ?_⟩
  rw [d.at_ o ho hb] at hz
  simp only [Prod.mk.injEq, DataW.lit.injEq, Lit.int.injEq, true_and] at hz
  exact hz.1.symm
theorem set (h : ByI w b bb) {o : Nat} (ho : o < 8) {c : Nat} (hc : c < 8) : ∃ w', (Instr.mapUpdate 45 (.map (some b)) (.int .i64 o) (.int .i64 c)).run Tryd.prog w = .ok () w' ∧ ByI w' b (upd bb o c) ∧ Mod [b] w w' := by
  obtain ⟨D, h, d⟩ := h
  obtain ⟨w', hr, ho', hg⟩ := h.update law3 Tryd.underlying45 (by decide) (key_of o ho) (plainElem_int Tryd.underlying3 (q := .i64) (a := c) (by
    match c, hc with
    | 0, _ | 1, _ | 2, _ | 3, _ | 4, _ | 5, _ | 6, _ | 7, _ => decide))
  have d' := byd_put d ho (c := (c : Int)) (by omega) rfl (ho'.canon law3)
  exact ⟨w', hr, ⟨_, own_fit ho' (byd_size d'), d'⟩, hg.os, hg.tape, hg.output, hg.size, fun k hk hn => hg.block k hk (fun e => hn (by simpa using e))⟩
theorem del (h : ByI w b bb) {o : Nat} (ho : o < 8) (ty : TypeId) : ∃ w', (Builtin.delete_ #[45, 3] ty #[.map (some b), .int .i64 o]).run Tryd.prog w = .ok (.tuple #[]) w' ∧ ByI w' b (upd bb o (-1)) ∧ Mod [b] w w' := by
  obtain ⟨D, h, d⟩ := h
  obtain ⟨w', hr, ho', hg⟩ := h.drop law3 Tryd.underlying45 (key_of o ho) ty
  have d' := byd_del d (o := o) rfl (ho'.canon law3)
  have hg := hg.grown
  exact ⟨w', hr, ⟨_, own_fit ho' (byd_size d'), d'⟩, hg.os, hg.tape, hg.output, hg.size, fun k hk hn => hg.block k hk (fun e => hn (by simpa using e))⟩
end ByI
open Go.RowKit
set_option linter.unusedVariables false
set_option linter.unusedSimpArgs false
attribute [local go_sem ↓] Go.wp_at_zero Go.wp_at_succ

def svF (bT bB mB : Nat) (v : Value) (n : Nat) (j : Nat) : Value := if j = 0 then .pointer (some ⟨bT, 0, none⟩) else if j = 1 then .pointer (some ⟨bB, 0, none⟩) else if j = 2 then v else if j = 3 then .int .i64 n else .map (some mB)
/-- The service at sv: its table, its book, its queue, its last number, its map. All lies at B or above it. -/
structure Sv (w : World) (B sv bT bB mB : Nat) (v : Value) (x : GS) : Prop where
  arr : Arr w sv 47 5 (svF bT bB mB v x.last)
  tb : Tb w bT x.t
  bk : Bk w bB x.u x.s x.d
  wt : w.ownsRow B 39 4 v x.wl.length (hcells x.wl)
  by' : ByI w mB x.bb
  wh : Whole w
  inv : GInv x
  lo : 1 < B
  l1 : B ≤ sv
  l2 : B ≤ bT
  l3 : B ≤ bB
  l4 : B ≤ mB
namespace Sv
variable {w w' : World} {B sv bT bB mB : Nat} {v : Value} {x : GS}
theorem whole_mod {S : List Nat} (h : Whole w) (m : Mod S w w') (hs : 1 ∉ S) : Whole w' := ⟨m.cell' h.1 hs, m.cell' h.2 hs⟩
theorem mod {S : List Nat} (h : Sv w B sv bT bB mB v x) (m : Mod S w w') (h1 : sv ∉ S) (h2 : bT ∉ S) (h3 : bB ∉ S) (h4 : mB ∉ S) (h5 : ∀ k, v.ownBlock = some k → k ∉ S) (h6 : 1 ∉ S) : Sv w' B sv bT bB mB v x :=
  ⟨h.arr.mod m h1, h.tb.mod m h2, h.bk.mod m h3, own_mod h.wt m h5, h.by'.mod m h4, whole_mod h.wh m h6, h.inv, h.lo, h.l1, h.l2, h.l3, h.l4⟩
theorem mod0 (h : Sv w B sv bT bB mB v x) (m : Mod [] w w') : Sv w' B sv bT bB mB v x := h.mod m (by simp) (by simp) (by simp) (by simp) (by simp) (by simp)
theorem c0 (h : Sv w B sv bT bB mB v x) : w.cell? ⟨sv, 0, none⟩ = some (.pointer (some ⟨bT, 0, none⟩)) := h.arr.cell 0 (by omega)
theorem c1 (h : Sv w B sv bT bB mB v x) : w.cell? ⟨sv, 1, none⟩ = some (.pointer (some ⟨bB, 0, none⟩)) := h.arr.cell 1 (by omega)
theorem c2 (h : Sv w B sv bT bB mB v x) : w.cell? ⟨sv, 2, none⟩ = some v := h.arr.cell 2 (by omega)
theorem c3 (h : Sv w B sv bT bB mB v x) : w.cell? ⟨sv, 3, none⟩ = some (.int .i64 x.last) := h.arr.cell 3 (by omega)
theorem c4 (h : Sv w B sv bT bB mB v x) : w.cell? ⟨sv, 4, none⟩ = some (.map (some mB)) := h.arr.cell 4 (by omega)
end Sv
theorem arr_ne {w : World} {b b' : Nat} {T T' : TypeId} {N N' : Nat} {f f' : Nat → Value} (h : Arr w b T N f) (h' : Arr w b' T' N' f') (ht : T ≠ T') : b ≠ b' := by
  rintro rfl
  obtain ⟨cs, h1, _, _⟩ := h
  obtain ⟨cs', h1', _, _⟩ := h'
  rw [h1] at h1'
  simp at h1'
  exact ht h1'.2
theorem own_notArr {w : World} {base e n b T N : Nat} {sz : Nat} {v : Value} {xs : List Value} {f : Nat → Value} (h : w.ownsRow base e sz v n xs) (hA : Arr w b T N f) (hne : e ≠ T) : b ∉ v.ownBlock.toList := by
  intro hx
  obtain ⟨_, h1 | ⟨g', cap', cur, e1, _, e2, _⟩⟩ := h
  · rw [h1.1] at hx; simp [Value.ownBlock] at hx
  · rw [e1] at hx
    simp [Value.ownBlock] at hx
    subst hx
    obtain ⟨cs, f1, _⟩ := hA
    rw [e2] at f1
    injection f1 with f1
    injection f1 with _ f1
    exact hne f1
namespace Sv
variable {w w' : World} {B sv bT bB mB : Nat} {v : Value} {x : GS}
/-- The blocks are apart. -/
theorem apart (h : Sv w B sv bT bB mB v x) : sv ≠ bT ∧ sv ≠ bB ∧ bT ≠ bB ∧ mB ≠ sv ∧ mB ≠ bT ∧ mB ≠ bB ∧ sv ∉ v.ownBlock.toList ∧ bT ∉ v.ownBlock.toList ∧ bB ∉ v.ownBlock.toList ∧ mB ∉ v.ownBlock.toList :=
  ⟨arr_ne h.arr h.tb.arr (by decide), arr_ne h.arr h.bk.arr (by decide), arr_ne h.tb.arr h.bk.arr (by decide), h.by'.notArr h.arr, h.by'.notArr h.tb.arr, h.by'.notArr h.bk.arr, own_notArr h.wt h.arr (by decide), own_notArr h.wt h.tb.arr (by decide), own_notArr h.wt h.bk.arr (by decide), h.by'.notOwn h.wt⟩
end Sv
end Go.Proofs.YtijjbkkcienfgaaDoor
