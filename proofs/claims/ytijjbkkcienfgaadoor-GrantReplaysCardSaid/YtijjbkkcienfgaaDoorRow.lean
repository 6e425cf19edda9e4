/- What an argument that can be read as data holds, cell by cell: for any type of numbers, bools, texts, structs, arrays and slices of these. No condition. -/
import Derived.ProofKit
import Derived.OpenShut
import Derived.ShutString
import Derived.ChangeOld
import Derived.Below
import Derived.SizedLaws
import Derived.Test.YtijjbkkcienfgaaDoorLib
namespace Go.Proofs.YtijjbkkcienfgaaDoor
open Go.RowKit
set_option linter.unusedVariables false
set_option linter.unusedSimpArgs false

inductive Sh where
  | int (k : IntKind)
  | bool
  | str
  | sl (l : List Sh)

def shapeFs (P : Program) (S : TypeId → Option (List Sh)) : List Field → List Sh → Option (List Sh)
  | [], acc => some acc
  | f :: fs, acc => match S f.type with
    | some m => if f.offset = acc.length ∧ P.cellsOf f.type = m.length then shapeFs P S fs (acc ++ m) else none
    | none => none

def shapeOf (P : Program) : Nat → TypeId → Option (List Sh)
  | 0, _ => none
  | n + 1, t => match P.underlying t with
    | some .bool => some [.bool]
    | some (.int k) => some [.int k]
    | some .string => some [.str]
    | some (.slice e) => match shapeOf P n e with
      | some l => if P.cellsOf e = l.length then some [.sl l] else none
      | none => none
    | some (.struct fs) => match shapeFs P (shapeOf P n) fs.toList [] with
      | some l => if P.cellsOf t = l.length then some l else none
      | none => none
    | some (.array m e) => match shapeOf P n e with
      | some l => if P.cellsOf e = l.length ∧ P.cellsOf t = m * l.length then some (List.replicate m l).flatten else none
      | none => none
    | _ => none

inductive CellOk (w : World) : Sh → Value → Prop
  | int {k : IntKind} {n : Int} : (Lit.int k n).wf = true → CellOk w (.int k) (.int k n)
  | bool {b : Bool} : CellOk w .bool (.bool b)
  | str {s : ByteArray} : s.size ≤ maxLen → CellOk w .str (.string s)
  | nil {l : List Sh} : CellOk w (.sl l) (.slice none 0 0)
  | sl {l : List Sh} {a : Addr} {len cap : Nat} (f : Nat → Nat → Value) : len ≤ cap → cap ≤ maxLen →
      (∀ i j, i < len → j < l.length → w.cell? ((a.add (i * l.length)).add j) = some (f i j)) →
      (∀ i j sh, i < len → l[j]? = some sh → CellOk w sh (f i j)) → CellOk w (.sl l) (.slice (some a) len cap)

/-- Cells of these shapes. -/
def CellsOk (w : World) (l : List Sh) (cs : List Value) : Prop := cs.length = l.length ∧ ∀ (j : Nat) (sh : Sh) (v : Value), l[j]? = some sh → cs[j]? = some v → CellOk w sh v

theorem cellsOk_one {w : World} {sh : Sh} {v : Value} (h : CellOk w sh v) : CellsOk w [sh] [v] := by
  refine ⟨rfl, fun j s u h1 h2 => ?_⟩
  match j with
  | 0 =>
    simp at h1 h2
    rw [← h1, ← h2]
    exact h
  | j + 1 => simp at h1

theorem mapM_get {α β : Type} {g : α → Option β} : ∀ {l : List α} {r : List β}, l.mapM g = some r → ∀ i : Nat, (l[i]?).bind g = r[i]? := by
  intro l
  induction l with
  | nil => intro r h i; simp at h; subst h; simp
  | cons x l ih =>
    intro r h i
    simp only [List.mapM_cons] at h
    cases hx : g x with
    | none => rw [hx] at h; cases h
    | some y =>
      rw [hx] at h
      cases hl : l.mapM g with
      | none => rw [hl] at h; cases h
      | some ys =>
        rw [hl] at h
        cases h
        cases i with
        | zero => simp [hx]
        | succ i => simpa using ih hl i

theorem mapM_len {α β : Type} {g : α → Option β} : ∀ {l : List α} {r : List β}, l.mapM g = some r → r.length = l.length := by
  intro l r h
  have key := mapM_get h
  rcases Nat.lt_trichotomy r.length l.length with h1 | h1 | h1
  · exfalso
    have := key r.length
    rw [List.getElem?_eq_none (Nat.le_refl r.length)] at this
    rw [List.getElem?_eq_getElem h1] at this
    simp only [Option.bind_some] at this
    -- g of an element that is met is some
    have : ∀ (l : List α) (r : List β), l.mapM g = some r → ∀ x ∈ l, (g x).isSome := by
      intro l
      induction l with
      | nil => intro r _ x hx; cases hx
      | cons y l ih =>
        intro r h x hx
        simp only [List.mapM_cons] at h
        cases hy : g y with
        | none => rw [hy] at h; cases h
        | some z =>
          rw [hy] at h
          cases hl : l.mapM g with
          | none => rw [hl] at h; cases h
          | some zs =>
            rcases List.mem_cons.1 hx with e | e
            · subst e; simp [hy]
            · exact ih zs hl x e
    have := this l r h (l[r.length]) (List.getElem_mem h1)
    simp_all
  · exact h1
  · exfalso
    have := key l.length
    rw [List.getElem?_eq_none (Nat.le_refl l.length), List.getElem?_eq_getElem h1] at this
    cases this

section
variable {H : Type} {enc : TypeId × Value → H} {P : Program} {w : World} {base : Nat} {spare : Nat → Bool} {held : Bool}

theorem cells_of {a : Addr} {n : Nat} {cs : List Value} (h : w.cells? base a n = some cs) : cs.length = n ∧ ∀ j, j < n → w.cell? (a.add j) = cs[j]? := by
  unfold World.cells? at h
  split at h
  · refine ⟨by simpa using mapM_len h, fun j hj => ?_⟩
    have := mapM_get h j
    rw [List.getElem?_range hj] at this
    simpa using this
  · cases h

theorem shapeFs_ok {S : TypeId → Option (List Sh)} {cs : List Value}
    (hS : ∀ t m sub, S t = some m → (∃ x : DataW H × List MemPlace, DataW.Trod enc P w base spare held t (.agg sub) x.1 x.2) → CellsOk w m sub.toList) :
    ∀ (fs : List Field) (acc l : List Sh), shapeFs P S fs acc = some l →
      (∀ f ∈ fs, ∃ x : DataW H × List MemPlace, DataW.Trod enc P w base spare held f.type (.agg ((cs.drop f.offset).take (P.cellsOf f.type)).toArray) x.1 x.2) →
      acc.length ≤ cs.length → (∀ (j : Nat) (sh : Sh) (v : Value), acc[j]? = some sh → cs[j]? = some v → CellOk w sh v) → acc.length ≤ l.length ∧ l.length ≤ cs.length ∧ (∀ (j : Nat) (sh : Sh) (v : Value), l[j]? = some sh → cs[j]? = some v → CellOk w sh v)
  | [], acc, l, h, _, hle, hok => by
    simp only [shapeFs, Option.some.injEq] at h
    subst h
    exact ⟨Nat.le_refl _, hle, hok⟩
  | f :: fs, acc, l, h, hf, hle, hok => by
    simp only [shapeFs] at h
    cases hm : S f.type with
    | none => rw [hm] at h; cases h
    | some m =>
      rw [hm] at h
      simp only at h
      split at h
      · rename_i hc
        obtain ⟨x, hx⟩ := hf f (by simp)
        have hk := hS _ _ _ hm ⟨x, hx⟩
        have hl : ((cs.drop f.offset).take (P.cellsOf f.type)).length = m.length := hk.1
        rw [hc.2, hc.1] at hl
        simp only [List.length_take, List.length_drop] at hl
        have h2 := shapeFs_ok hS fs (acc ++ m) l h (fun g hg => hf g (by simp [hg])) (by rw [List.length_append]; omega) (by
          intro j sh v h1 h2
          rcases Nat.lt_or_ge j acc.length with hj | hj
          · rw [List.getElem?_append_left hj] at h1
            exact hok j sh v h1 h2
          · rw [List.getElem?_append_right hj] at h1
            have hjm : j - acc.length < m.length := by
              rcases Nat.lt_or_ge (j - acc.length) m.length with h' | h'
              · exact h'
              · rw [List.getElem?_eq_none h'] at h1; cases h1
            refine hk.2 (j - acc.length) sh v h1 ?_
            rw [hc.1, hc.2, List.getElem?_take, if_pos hjm, List.getElem?_drop]
            rw [show acc.length + (j - acc.length) = j by omega]
            exact h2)
        rw [List.length_append] at h2
        exact ⟨by omega, h2.2⟩
      · cases h

theorem trod_shape : ∀ (n fuel : Nat) (t : TypeId) (cs : List Value) (x : DataW H × List MemPlace) (l : List Sh),
    DataW.trod enc P w base spare held fuel t cs = some x → shapeOf P n t = some l → CellsOk w l cs
  | 0, _, _, _, _, _, _, h => by simp [shapeOf] at h
  | n + 1, fuel, t, cs, x, l, hx, h => by
    simp only [shapeOf] at h
    cases hu : P.underlying t with
    | none => rw [hu] at h; cases h
    | some d =>
      rw [hu] at h
      cases d <;> simp only at h <;> try (cases h; done)
      case bool =>
        cases h
        cases fuel with
        | zero => simp [DataW.trod] at hx
        | succ m =>
          unfold DataW.trod at hx
          rw [hu] at hx
          split at hx <;> simp_all
          exact cellsOk_one .bool
      case int k =>
        cases h
        obtain ⟨z, rfl, _, hw⟩ := DataW.trod_int hu hx
        exact cellsOk_one (.int hw)
      case string =>
        cases h
        obtain ⟨s, rfl, _, hs⟩ := DataW.trod_string hu hx
        exact cellsOk_one (.str hs)
      case slice e =>
        cases hl : shapeOf P n e with
        | none => rw [hl] at h; cases h
        | some m =>
          rw [hl] at h
          simp only at h
          split at h
          · rename_i hc
            cases h
            rcases DataW.trod_slice hu hx with ⟨rfl, _⟩ | ⟨a, len, cap, elems, rest, k, rfl, rfl, _, _, h1, h2, h3, h4, _, _⟩
            · exact cellsOk_one .nil
            · refine cellsOk_one ?_
              have hel : ∀ i, i < len → ∃ cs', w.cells? base (a.add (i * m.length)) m.length = some cs' ∧ CellsOk w m cs' := by
                intro i hi
                have := h4 i hi
                rw [List.getElem?_eq_getElem (by omega), Option.bind_eq_some_iff, hc] at this
                obtain ⟨cs', e1, e2⟩ := this
                exact ⟨cs', e1, trod_shape n k e cs' _ m e2 hl⟩
              refine .sl (fun i j => (w.cell? ((a.add (i * m.length)).add j)).getD undef) h1 h2 (fun i j hi hj => ?_) (fun i j sh hi hj => ?_)
              · obtain ⟨cs', e1, e2⟩ := hel i hi
                have := (cells_of e1).2 j hj
                rw [this, List.getElem?_eq_getElem (by rw [(cells_of e1).1]; exact hj)]
                rfl
              · obtain ⟨cs', e1, e2⟩ := hel i hi
                have hjl : j < m.length := by
                  rcases Nat.lt_or_ge j m.length with h' | h'
                  · exact h'
                  · rw [List.getElem?_eq_none h'] at hj; cases hj
                have := (cells_of e1).2 j hjl
                rw [this]
                have hcs : j < cs'.length := by rw [(cells_of e1).1]; exact hjl
                rw [List.getElem?_eq_getElem hcs]
                exact e2.2 j sh _ hj (List.getElem?_eq_getElem hcs)
          · cases h
      case struct fs =>
        cases hl : shapeFs P (shapeOf P n) fs.toList [] with
        | none => rw [hl] at h; cases h
        | some m =>
          rw [hl] at h
          simp only at h
          split at h
          · rename_i hc
            cases h
            obtain ⟨xs, k, rfl, _, h1, h2, h3⟩ := DataW.trod_struct hu hx
            have := shapeFs_ok (enc := enc) (P := P) (w := w) (base := base) (spare := spare) (held := held) (S := shapeOf P n) (cs := cs)
              (fun t m sub hs ⟨y, q, hy⟩ => trod_shape n q t sub.toList y m hy hs) fs.toList [] l hl
              (fun f hf => by
                obtain ⟨i, hi⟩ := List.getElem?_of_mem hf
                have hil : i < fs.size := by
                  rcases Nat.lt_or_ge i fs.size with h' | h'
                  · exact h'
                  · rw [List.getElem?_eq_none (by simpa using h')] at hi; cases hi
                have := h3 i f (by simpa using hi)
                rw [List.getElem?_eq_getElem (by omega)] at this
                exact ⟨xs[i], k, by simpa [Value.cells] using this⟩) (by simp) (by simp)
            exact ⟨by omega, this.2.2⟩
          · cases h
      case array m e =>
        cases hl : shapeOf P n e with
        | none => rw [hl] at h; cases h
        | some q =>
          rw [hl] at h
          simp only at h
          split at h
          · rename_i hc
            cases h
            cases fuel with
            | zero => simp [DataW.trod] at hx
            | succ k =>
              unfold DataW.trod at hx
              rw [hu] at hx
              simp only at hx
              split at hx
              · rename_i hlen
                rw [Option.map_eq_some_iff] at hx
                obtain ⟨xs, hxs, _⟩ := hx
                have hel : ∀ i, i < m → CellsOk w q ((cs.drop (i * q.length)).take q.length) := by
                  intro i hi
                  have := mapM_get hxs i
                  rw [List.getElem?_range hi, Option.bind_some, hc.1, List.getElem?_eq_getElem (by rw [mapM_len hxs]; simpa using hi)] at this
                  exact trod_shape n k e _ _ q this hl
                have htot : (List.replicate m q).flatten.length = m * q.length := by simp
                refine ⟨by rw [htot]; omega, fun j sh v h1 h2 => ?_⟩
                have hj : j < m * q.length := by
                  rcases Nat.lt_or_ge j (m * q.length) with h' | h'
                  · exact h'
                  · rw [List.getElem?_eq_none (by omega)] at h1; cases h1
                have hq : 0 < q.length := by
                  rcases Nat.eq_zero_or_pos q.length with h' | h'
                  · rw [h'] at hj; omega
                  · exact h'
                have hdiv : j / q.length < m := Nat.div_lt_of_lt_mul (by rw [Nat.mul_comm]; exact hj)
                have hrep : ∀ (m j : Nat), j < m * q.length → (List.replicate m q).flatten[j]? = q[j % q.length]? := by
                  intro m
                  induction m with
                  | zero => intro j hj; omega
                  | succ m ih =>
                    intro j hj
                    rw [List.replicate_succ, List.flatten_cons]
                    rcases Nat.lt_or_ge j q.length with hj' | hj'
                    · rw [List.getElem?_append_left hj', Nat.mod_eq_of_lt hj']
                    · rw [List.getElem?_append_right hj', ih (j - q.length) (by rw [Nat.succ_mul] at hj; omega), Nat.mod_eq_sub_mod hj']
                rw [hrep m j hj] at h1
                refine (hel (j / q.length) hdiv).2 (j % q.length) sh v h1 ?_
                have hmod := Nat.mod_lt j hq
                rw [List.getElem?_take, if_pos hmod, List.getElem?_drop]
                have : j / q.length * q.length + j % q.length = j := by rw [Nat.mul_comm]; exact Nat.div_add_mod j q.length
                rw [this]
                exact h2
              · cases hx
          · cases h
end

theorem CellOk.slA {w : World} {l : List Sh} {v : Value} (h : CellOk w (.sl l) v) (hl : 0 < l.length) :
    ∃ n f, SlA w v n l.length f ∧ ∀ i j sh, i < n → l[j]? = some sh → CellOk w sh (f i j) := by
  cases h with
  | nil => exact ⟨0, fun _ _ => undef, ⟨none, 0, rfl, Nat.le_refl _, Nat.zero_le _, fun h => absurd h (by omega)⟩, fun i j sh hi => absurd hi (by omega)⟩
  | @sl _ a len cap f h1 h2 h3 h4 =>
    refine ⟨len, f, ⟨some a, cap, rfl, h1, h2, fun hn => ?_⟩, h4⟩
    have h0 := h3 0 0 hn hl
    have hs : a.spot = none := by
      cases hsp : a.spot with
      | none => rfl
      | some s =>
        exfalso
        have : ((a.add (0 * l.length)).add 0).spot.isSome = true := by
          unfold Addr.add
          simp [hsp]
        unfold World.cell? at h0
        split at h0
        · rw [if_pos this] at h0; cases h0
        · cases h0
    obtain ⟨b, off, sp⟩ := a
    subst hs
    refine ⟨b, off, rfl, fun i j hi hj => ?_⟩
    have := h3 i j hi hj
    have e1 : ((⟨b, off, none⟩ : Addr).add (i * l.length)).add j = ⟨b, off + i * l.length + j, none⟩ := by
      unfold Addr.add
      by_cases z1 : i * l.length = 0 <;> by_cases z2 : j = 0 <;> simp [z1, z2]
    rw [e1] at this
    exact this

theorem CellOk.int_inv {w : World} {k : IntKind} {v : Value} (h : CellOk w (.int k) v) : ∃ n, v = .int k n ∧ (Lit.int k n).wf = true := by
  cases h with
  | int h => exact ⟨_, rfl, h⟩
theorem CellOk.bool_inv {w : World} {v : Value} (h : CellOk w .bool v) : ∃ b, v = .bool b := by
  cases h with
  | bool => exact ⟨_, rfl⟩
theorem CellOk.str_inv {w : World} {v : Value} (h : CellOk w .str v) : ∃ s, v = .string s ∧ s.size ≤ maxLen := by
  cases h with
  | str h => exact ⟨_, rfl, h⟩

theorem bd_i64 {n : Int} (h : (Lit.int .i64 n).wf = true) : -9223372036854775808 ≤ n ∧ n ≤ 9223372036854775807 := by
  simpa [Lit.wf, IntKind.has, IntKind.min, IntKind.max, IntKind.signed, IntKind.bits] using h
theorem bd_u8 {n : Int} (h : (Lit.int .u8 n).wf = true) : 0 ≤ n ∧ n ≤ 255 := by
  simpa [Lit.wf, IntKind.has, IntKind.min, IntKind.max, IntKind.signed, IntKind.bits] using h
theorem bd_u16 {n : Int} (h : (Lit.int .u16 n).wf = true) : 0 ≤ n ∧ n ≤ 65535 := by
  simpa [Lit.wf, IntKind.has, IntKind.min, IntKind.max, IntKind.signed, IntKind.bits] using h
theorem bd_u32 {n : Int} (h : (Lit.int .u32 n).wf = true) : 0 ≤ n ∧ n ≤ 4294967295 := by
  simpa [Lit.wf, IntKind.has, IntKind.min, IntKind.max, IntKind.signed, IntKind.bits] using h
theorem bd_u64 {n : Int} (h : (Lit.int .u64 n).wf = true) : 0 ≤ n ∧ n ≤ 18446744073709551615 := by
  simpa [Lit.wf, IntKind.has, IntKind.min, IntKind.max, IntKind.signed, IntKind.bits] using h
end Go.Proofs.YtijjbkkcienfgaaDoor
