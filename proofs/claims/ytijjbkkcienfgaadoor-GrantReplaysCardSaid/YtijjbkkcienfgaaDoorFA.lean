/- Numbers as fields, package field's and the document's: what they come to. No condition beyond what stands in each. (Written by wip/tools/genFg.py.) Commands as bytes: plain. No program in sight; no condition beyond what stands in each. Commands out of bytes and into bytes, at the program's side. No condition beyond what stands in each. Commands out of bytes and into bytes, at the document's side. No condition beyond what stands in each. Commands into bytes, at the document's side. No condition beyond what stands in each. A log replayed, on both sides. Premises: the whole range and the table of kinds lie as laid. -/
import Derived.Test.YtijjbkkcienfgaaDoorProg
import Derived.Test.YtijjbkkcienfgaaDoorLib
import Derived.Lib.IfaceEq
import Derived.Lib.AppendStr
import Derived.Deep.DeepCutAuto
import Derived.Test.YtijjbkkcienfgaaDoorGr6
import Derived.Test.YtijjbkkcienfgaaDoorGr14
import Derived.Test.YtijjbkkcienfgaaDoorRgE
namespace Go.Proofs.YtijjbkkcienfgaaDoor.Fg
open Go.RowKit
set_option linter.unusedVariables false
set_option linter.unusedSimpArgs false

def faultF (e a : Int) (u : Value) (i : Nat) : Value := if i = 0 then .int .i64 e else if i = 1 then .int .i64 a else u
/-- An error whose chain is l; its Faults lie in the blocks E. -/
inductive Errs (w : World) : Value → List Int → List Nat → Prop
  | nil : Errs w .nilIface [] []
  | fault {g : Nat} {e a : Int} {u : Value} {l : List Int} {E : List Nat} : Arr w g 174 3 (faultF e a u) → Errs w u l E → Errs w (.iface 172 (.pointer (some ⟨g, 0, none⟩))) (e :: l) (g :: E)
  | num {e : Int} : Errs w (.iface 29 (.int .i64 e)) [e] []
theorem Errs.mod {S : List Nat} {w w' : World} {v : Value} {l : List Int} {E : List Nat} (h : Errs w v l E) (m : Mod S w w') (hs : ∀ x, x ∈ E → x ∉ S) : Errs w' v l E := by
  induction h with
  | nil => exact .nil
  | fault hA _ ih => exact .fault (hA.mod m (hs _ (by simp))) (ih fun x hx => hs x (by simp [hx]))
  | num => exact .num
theorem Errs.mod0 {w w' : World} {v : Value} {l : List Int} {E : List Nat} (h : Errs w v l E) (m : Mod [] w w') : Errs w' v l E := h.mod m (by simp)
theorem Errs.lt {w : World} {v : Value} {l : List Int} {E : List Nat} (h : Errs w v l E) : ∀ x, x ∈ E → x < w.heap.size := by
  induction h with
  | nil => intro x hx; cases hx
  | fault hA _ ih =>
    intro x hx
    rcases List.mem_cons.1 hx with e | e
    · subst e; exact hA.lt
    · exact ih x e
  | num => intro x hx; cases hx
theorem Errs.isNil {w : World} {v : Value} {l : List Int} {E : List Nat} (h : Errs w v l E) : (l = [] ↔ v = .nilIface) := by
  cases h <;> simp

def IfaceV (u : Value) : Prop := u = .nilIface ∨ ∃ t x, u = .iface t x
theorem Errs.iface {w : World} {v : Value} {l : List Int} {E : List Nat} (h : Errs w v l E) : IfaceV v := by
  cases h with
  | nil => exact .inl rfl
  | fault _ _ => exact .inr ⟨_, _, rfl⟩
  | num => exact .inr ⟨_, _, rfl⟩
theorem wrap_calls (w : World) (e a : Int) (u : Value) (he : e ≠ 0) (hu : IfaceV u) :
    Calls Tryd.prog 77 #[.int .i64 e, .int .i64 a, u] w fun r w' => r = .returned (.iface 172 (.pointer (some ⟨w.heap.size, 0, none⟩))) ∧ Arr w' w.heap.size 174 3 (faultF e a u) ∧ Mod [] w w' := by
  have he' : (e == 0) = false := by simpa using he
  have hA := Arr.new' w #[.int .i64 e, .int .i64 a, u] 174 3 (faultF e a u) rfl (fun i hi => by
    match i, hi with
    | 0, _ | 1, _ | 2, _ => rfl)
  have hM : Mod [] w (w.alloc (.cells #[.int .i64 e, .int .i64 a, u] 174)) := (Mod.refl _ _).alloc _
  clear he
  rcases hu with rfl | ⟨t, x, rfl⟩
  all_goals
    go_enter Tryd.func77, Tryd.ntmps77
    go_wp2
    go_ret
    exact ⟨rfl, hA, hM⟩
/-- Wrap, as a chain. -/
theorem wrapE_calls (w : World) (e a : Int) (u : Value) (l : List Int) (E : List Nat) (he : e ≠ 0) (hu : Errs w u l E) :
    Calls Tryd.prog 77 #[.int .i64 e, .int .i64 a, u] w fun r w' => ∃ v, r = .returned v ∧ Errs w' v (e :: l) (w.heap.size :: E) ∧ Mod [] w w' := by
  refine (wrap_calls w e a u he hu.iface).mono ?_
  rintro r w' ⟨rfl, hA, m⟩
  exact ⟨_, rfl, .fault hA (hu.mod0 m), m⟩
/-- A row of one's own does not lie in a block of another element type. -/
theorem own_ne_arr {w : World} {base e n b T N : Nat} {sz : Nat} {v : Value} {xs : List Value} {f : Nat → Value} (h : w.ownsRow base e sz v n xs) (hA : Arr w b T N f) (hne : e ≠ T) : b ∉ v.ownBlock.toList := by
  intro hx
  obtain ⟨_, h1 | ⟨g', cap', cur, e1, _, e2, _⟩⟩ := h
  · rw [h1.1] at hx; simp [Value.ownBlock] at hx
  · rw [e1] at hx
    simp [Value.ownBlock] at hx
    subst hx
    obtain ⟨cs, f1, _⟩ := hA
    rw [e2] at f1
    injection f1 with f1
    injection f1 with _ f1
    exact hne f1
theorem Errs.modOwn {w w' : World} {v : Value} {l : List Int} {E : List Nat} {base n : Nat} {lv : Value} {xs : List Value} (h : Errs w v l E) (ho : w.ownsRow base 29 1 lv n xs) (m : Mod lv.ownBlock.toList w w') : Errs w' v l E := by
  induction h with
  | nil => exact .nil
  | fault hA _ ih => exact .fault (hA.mod m (own_ne_arr ho hA (by decide))) ih
  | num => exact .num
theorem errno_cmp : (Tryd.prog.info? 29).map (·.comparable) = some true := by kernel_rfl
theorem errno_eq (e : Int) (w : World) : (binOp .eql 119 (.iface 29 (.int .i64 e)) (.iface 29 (.int .i64 e))).run Tryd.prog w = .ok (.bool true) w := by
  have := Lib.run_eql_iface_int (P := Tryd.prog) w (k := .i64) e e Tryd.underlying119 errno_cmp Tryd.underlying29
  rw [this]
  simp
theorem errno_info : (Tryd.prog.info? 29).map (fun i => (i.zero, i.size, i.bytes)) = some (some (.int .i64 0), 1, 8) := by kernel_rfl
theorem fp_cmp : (Tryd.prog.info? 172).map (·.comparable) = some true := by kernel_rfl
theorem fault_size : (Tryd.prog.info? 174).map (·.size) = some 3 := by kernel_rfl
def ints (l : List Int) : List Value := l.map (Value.int .i64)
theorem ints_app (l : List Int) (x : Int) : ints l ++ [.int .i64 x] = ints (l ++ [x]) := by simp [ints]
def slLen : Value → Nat
  | .slice _ n _ => n
  | _ => 0
def u8V (b : UInt8) : Value := .int .u8 b.toNat
/-- The k lowest bytes of n. -/
def leB (n k : Nat) : List UInt8 := (List.range k).map fun i => UInt8.ofNat (n / 256 ^ i % 256)
theorem leB_length (n k : Nat) : (leB n k).length = k := by simp [leB]
theorem leB_succ (n k : Nat) : leB n (k + 1) = leB n k ++ [UInt8.ofNat (n / 256 ^ k % 256)] := by simp [leB, List.range_succ]
theorem leB_zero (n : Nat) : leB n 0 = [] := rfl
theorem u8_ofNat (m : Nat) : u8V (UInt8.ofNat (m % 256)) = .int .u8 ((m : Int) % 256) := by
  unfold u8V
  have : (UInt8.ofNat (m % 256)).toNat = m % 256 := by simp
  rw [this]
  congr 1
/-- The bytes of a text, as numbers. -/
def byS (s : ByteArray) (i : Nat) : Nat := (s.data[i]?.getD 0).toNat
theorem byS_lt (s : ByteArray) (i : Nat) : byS s i < 256 := UInt8.toNat_lt _
theorem byS_eq (s : ByteArray) (k : Nat) (h : k < s.size) : (s[k]'h).toNat = byS s k := by
  have h' : k < s.data.size := h
  unfold byS
  rw [Array.getElem?_eq_getElem h']
  rfl
/-- The number that the k bytes of f from a on are, the lowest first. -/
def leN (f : Nat → Nat) (a : Nat) : Nat → Nat
  | 0 => 0
  | k + 1 => leN f a k + f (a + k) * 256 ^ k
theorem leN_lt (f : Nat → Nat) (a k : Nat) (hf : ∀ i, f i < 256) : leN f a k < 256 ^ k := by
  induction k with
  | zero => simp [leN]
  | succ k ih =>
    rw [leN, Nat.pow_succ]
    have h1 := hf (a + k)
    have h2 : f (a + k) * 256 ^ k ≤ 255 * 256 ^ k := Nat.mul_le_mul_right _ (by omega)
    omega
theorem leN_head (f : Nat → Nat) (a k : Nat) : leN f a (k + 1) = f a + 256 * leN f (a + 1) k := by
  induction k with
  | zero => simp [leN]
  | succ k ih =>
    rw [leN, ih, leN, Nat.mul_add, Nat.pow_succ, show a + 1 + k = a + (k + 1) by omega]
    have : f (a + (k + 1)) * (256 ^ k * 256) = 256 * (f (a + (k + 1)) * 256 ^ k) := by
      rw [← Nat.mul_assoc, Nat.mul_comm]
    omega
theorem or_disj {a b k : Nat} (h : a < 2 ^ k) : a ||| (b * 2 ^ k) = a + b * 2 ^ k := by
  rw [Nat.mul_comm b, Nat.or_comm, ← Nat.two_pow_add_eq_or_of_lt h b, Nat.add_comm]
/-- The bytes of n, read back. -/
theorem leN_leB (n k a : Nat) (f : Nat → Nat) (h : ∀ i, i < k → f (a + i) = n / 256 ^ i % 256) : leN f a k = n % 256 ^ k := by
  induction k with
  | zero => simp [leN, Nat.mod_one]
  | succ k ih =>
    rw [leN, ih fun i hi => h i (by omega), h k (by omega), Nat.pow_succ, Nat.mod_mul, Nat.mul_comm]
theorem strCells_u8 (s : ByteArray) : Lib.strCells s = s.data.toList.map u8V := rfl

/-- Is a number of so many bytes one that can be written? -/
def wideB (k : Int) : Bool := decide (k = 1 ∨ k = 2 ∨ k = 4 ∨ k = 8)
def fitB (n k : Int) : Bool := wideB k && decide (0 ≤ n ∧ (k = 8 ∨ n < 2 ^ (8 * k.toNat)))
def numL (n k : Int) : List Int := if fitB n k then [] else [1]
def numB (bs : List UInt8) (n k : Int) : List UInt8 := if fitB n k then bs ++ leB n.toNat k.toNat else bs
def textL (s : ByteArray) : List Int := if s.size ≤ 1024 then [] else [11]
def textB (bs : List UInt8) (s : ByteArray) : List UInt8 := if s.size ≤ 1024 then bs ++ leB s.size 2 ++ s.data.toList else bs
theorem numB_len (bs : List UInt8) (n k : Int) : (numB bs n k).length ≤ bs.length + 8 := by
  unfold numB
  split
  · rename_i h
    simp only [fitB, wideB, Bool.and_eq_true, decide_eq_true_eq] at h
    simp [leB_length]; omega
  · omega
theorem textB_len (bs : List UInt8) (s : ByteArray) : (textB bs s).length ≤ bs.length + 2 + s.size := by
  unfold textB
  have hz : s.data.toList.length = s.size := rfl
  split
  · rw [List.length_append, List.length_append, leB_length, hz]; omega
  · omega
/-- What a reader's number is. -/
def rdN (s : ByteArray) (a : Nat) (k : Int) : Int :=
  if wideB k = false then 0 else if (s.size : Int) - a < k then 0 else if 2 ^ 63 ≤ leN (byS s) a k.toNat then 0 else (leN (byS s) a k.toNat : Nat)
def rdL (s : ByteArray) (a : Nat) (k : Int) : List Int :=
  if wideB k = false then [1] else if (s.size : Int) - a < k then [10] else if 2 ^ 63 ≤ leN (byS s) a k.toNat then [11] else []
def rdA (s : ByteArray) (a : Nat) (k : Int) : Nat := if rdL s a k = [] then a + k.toNat else a
/-- What a reader's text is. -/
def rtL (s : ByteArray) (a : Nat) : List Int :=
  if rdL s a 2 ≠ [] then rdL s a 2 ++ rdL s a 2 else if 1024 < rdN s a 2 then [11] else if (s.size : Int) - a - 2 < rdN s a 2 then [10] else []
def rtA (s : ByteArray) (a : Nat) : Nat := if rtL s a = [] then a + 2 + (rdN s a 2).toNat else a
def rtS (s : ByteArray) (a : Nat) : ByteArray := if rtL s a = [] then s.extract (a + 2) (a + 2 + (rdN s a 2).toNat) else ⟨#[]⟩
def endL (s : ByteArray) (a : Nat) : List Int := if a < s.size then [11] else []
/-- append(v, s...) of a text onto a row of bytes of one's own. -/
theorem run_app_str {P : Program} (w : World) (base : Nat) (t u ty e : TypeId) (i : TypeInfo) (ht : P.underlying t = some (.slice e)) (hu : P.underlying u = some .string) (hi : P.info? e = some i) (hz : i.zero = some (.int .u8 0))
    (hsize : i.size = 1) (hby : i.bytes = 1)
    (v : Value) (n : Nat) (xs : List Value) (hown : w.ownsRow base e 1 v n xs) (s : ByteArray)
    (h63 : n + s.size ≤ maxLen) (hbytes : n + s.size ≤ 140737488355328) (hbase : base ≤ w.heap.size) :
    ∃ v' w', (Builtin.append_ #[t, u] ty #[v, .string s]).run P w = .ok v' w' ∧ w'.ownsRow base e 1 v' (n + s.size) (xs ++ Lib.strCells s) ∧ Mod v.ownBlock.toList w w' ∧
      (v'.ownBlock = v.ownBlock ∨ v'.ownBlock = some w.heap.size) := by
  obtain ⟨hxl, ho⟩ := hown
  have hown : w.ownsRow base e 1 v n xs := ⟨hxl, ho⟩
  rcases ho with ⟨rfl, rfl⟩ | ⟨g, cap, cur, rfl, hbg, hg, hnc, hcm, hcs, htake⟩
  · obtain rfl : xs = [] := List.eq_nil_of_length_eq_zero (by simpa using hxl)
    obtain ⟨v', w', hr, ho', hgr, hnil⟩ := Lib.run_append_own_string (P := P) w w.heap.size t u ty e i ht hu hi hz hsize hby (.slice none 0 0) 0 [] (own_nil _ _ _ _) s h63 hbytes (Nat.le_refl _)
    refine ⟨v', w', hr, own_base ho' hbase, mod_grown hgr, ?_⟩
    have hsz := World.grownBy.size hgr
    by_cases hs : s.size = 0
    · left
      rw [hnil.2 ⟨rfl, hs⟩]
    · right
      -- the block is new
      have hr2 := Lib.run_append_own_string (P := P) w w.heap.size t u ty e i ht hu hi hz hsize hby (.slice none 0 0) 0 [] (own_nil _ _ _ _) s h63 hbytes (Nat.le_refl _)
      have hn := run_append_nil_string (P := P) w t u ty e i (.int .u8 0) ht hu hi hz s (by omega) (by unfold maxLen at h63; omega) (by rw [hby]; omega)
      rw [hn] at hr
      injection hr with hv _
      rw [← hv]
      rfl
  · by_cases hroom : n + s.size ≤ cap
    · obtain ⟨v', w', hr, ho', hgr, _⟩ := Lib.run_append_own_string (P := P) w base t u ty e i ht hu hi hz hsize hby _ n xs hown s h63 hbytes hbase
      refine ⟨v', w', hr, ho', mod_grown hgr, .inl ?_⟩
      have hn := Lib.run_append_room_string (P := P) w t u ty e i ht hu hi hsize g n cap cur hg s hroom (by omega)
      rw [hn] at hr
      injection hr with hv _
      rw [← hv]
      rfl
    · obtain ⟨v', w', hr, ho', hgr, _⟩ := Lib.run_append_own_string (P := P) w base t u ty e i ht hu hi hz hsize hby _ n xs hown s h63 hbytes hbase
      refine ⟨v', w', hr, ho', mod_grown hgr, .inr ?_⟩
      have holds : ∀ j u, xs[j]? = some u → w.cell? ((⟨g, 0, none⟩ : Addr).add j) = some u := hown.cells (g := g) rfl
      have hn := Lib.run_append_grow_string (P := P) w t u ty e i (.int .u8 0) ht hu hi hz ⟨g, 0, none⟩ n cap xs (by rw [hsize]; simpa using hxl) holds s (by omega) (by unfold maxLen at h63; omega) (by rw [hby]; exact growslice_fits (by omega) (by omega))
      rw [hn] at hr
      injection hr with hv _
      rw [← hv]
      rfl
theorem appS {P : Program} {ops : Array Oper} {rest : List Oper} {o : Oper} {a : Act} {Q : Exit → Act → World → Prop} {w : World} (base : Nat) (T u e : TypeId)
    (hT : P.underlying T = some (.slice e)) (hu : P.underlying u = some .string) (hinfo : (P.info? e).map (fun i => (i.zero, i.size, i.bytes)) = some (some (.int .u8 0), 1, 1))
    (hgd : o.guard = none) (s x : Operand) (ho : o.op = .call { callee := .builtin .append, args := #[s, x], argTypes := #[T, u] })
    (v : Value) (n : Nat) (xs : List Value) (hs : a.eval s = v) (hown : w.ownsRow base e 1 v n xs) (str : ByteArray) (hx : a.eval x = .string str)
    (hn : n ≤ 1000000) (hl : str.size ≤ 1000000) (hbase : base ≤ w.heap.size)
    (h : ∀ v' w', w'.ownsRow base e 1 v' (n + str.size) (xs ++ Lib.strCells str) → Mod v.ownBlock.toList w w' → (v'.ownBlock = v.ownBlock ∨ v'.ownBlock = some w.heap.size) →
      wpList P ops Q rest (a.put o.dst v') w') : wpList P ops Q (o :: rest) a w := by
  obtain ⟨i, hi, hz, hs', hb⟩ := info_parts hinfo
  refine wpList_plain hgd fun K hK => ?_
  obtain ⟨v', w', hr, h2, h3, h4⟩ := run_app_str (P := P) w base T u o.type e i hT hu hi hz hs' hb v n xs hown str (by unfold maxLen; omega) (by omega) hbase
  unfold Oper.wp execOp
  simp only [ho, resolve, invoke, builtin, Sem.run_bind, Sem.run_pure, Result.andThen_ok, List.map_toArray, List.map_cons, List.map_nil, hs, hx, hr]
  exact hK _ _ (h v' w' h2 h3 h4)

/-- What a call on an object has changed: blocks of F alone; behind it the object's blocks are F'. -/
structure Grow (F F' : List Nat) (w w' : World) : Prop where
  mod : Mod F w w'
  new : ∀ x, x ∈ F' → x ∈ F ∨ w.heap.size ≤ x
theorem Grow.refl (F : List Nat) (w : World) : Grow F F w w := ⟨Mod.refl _ _, fun _ h => .inl h⟩
theorem Grow.trans {F F' F'' : List Nat} {w w' w'' : World} (h : Grow F F' w w') (k : Grow F' F'' w' w'') : Grow F F'' w w'' :=
  ⟨h.mod.fresh k.mod h.new, fun x hx => by
    rcases k.new x hx with h1 | h1
    · exact h.new x h1
    · exact .inr (Nat.le_trans h.mod.size h1)⟩
theorem Grow.of_mod {F : List Nat} {w w' : World} (m : Mod [] w w') : Grow F F w w' := ⟨m.nil, fun _ h => .inl h⟩
theorem Grow.dj {F F' G : List Nat} {w w' : World} (h : Grow F F' w w') (hd : ∀ x, x ∈ F → x ∉ G) (hl : ∀ x, x ∈ G → x < w.heap.size) : ∀ x, x ∈ F' → x ∉ G := by
  intro x hx hg
  rcases h.new x hx with h1 | h1
  · exact hd x h1 hg
  · have := hl x hg; omega
theorem Grow.lo {F F' : List Nat} {w w' : World} {B : Nat} (h : Grow F F' w w') (hB : B ≤ w.heap.size) (hl : ∀ x, x ∈ F → B ≤ x) : ∀ x, x ∈ F' → B ≤ x := by
  intro x hx
  rcases h.new x hx with h1 | h1
  · exact hl x h1
  · omega

/-- A writer (of type T) at b has the bytes bs; all that is its own lies in the blocks F. -/
structure Wtr (w : World) (T b : Nat) (bs : List UInt8) (F : List Nat) : Prop where
  ex : ∃ v, Arr w b T 1 (fun _ => v) ∧ w.ownsRow 0 5 1 v bs.length (bs.map u8V) ∧ ∀ g, v.ownBlock = some g → g ∈ F ∧ g ≠ b
  here : b ∈ F
  lt : ∀ x, x ∈ F → x < w.heap.size
theorem Wtr.mod {S : List Nat} {w w' : World} {T b : Nat} {bs : List UInt8} {F : List Nat} (h : Wtr w T b bs F) (m : Mod S w w') (hd : ∀ x, x ∈ F → x ∉ S) : Wtr w' T b bs F := by
  obtain ⟨v, hA, ho, hg⟩ := h.ex
  exact ⟨⟨v, hA.mod m (hd b h.here), own_mod ho m (fun k hk => hd k (hg k hk).1), hg⟩, h.here, fun x hx => Nat.lt_of_lt_of_le (h.lt x hx) m.size⟩
theorem Wtr.mod0 {w w' : World} {T b : Nat} {bs : List UInt8} {F : List Nat} (h : Wtr w T b bs F) (m : Mod [] w w') : Wtr w' T b bs F := h.mod m (by simp)
theorem Wtr.new (w : World) (T : Nat) : Wtr (w.alloc (.cells #[.slice none 0 0] T)) T w.heap.size [] [w.heap.size] := by
  refine ⟨⟨.slice none 0 0, Arr.new' w _ _ 1 _ rfl (fun i hi => by simp [show i = 0 by omega]), own_nil _ _ _ _, fun g hg => by simp [Value.ownBlock] at hg⟩, by simp, fun x hx => by simp at hx; subst hx; simp⟩
/-- Behind an append and its store. -/
theorem Wtr.stored {w w2 : World} {T b : Nat} {bs bs' : List UInt8} {F : List Nat} {v v' : Value} {n' : Nat} {xs : List Value} (h : Wtr w T b bs F) (hA : Arr w b T 1 (fun _ => v)) (hg : ∀ g, v.ownBlock = some g → g ∈ F ∧ g ≠ b)
    (m : Mod v.ownBlock.toList w w2) (ho : w2.ownsRow 0 5 1 v' n' xs) (en : n' = bs'.length) (ex : xs = bs'.map u8V) (hv : ∀ g, v'.ownBlock = some g → v.ownBlock = some g ∨ w.heap.size ≤ g) :
    ∃ F', Wtr (w2.setCell ⟨b, 0, none⟩ v') T b bs' F' ∧ Grow F F' w (w2.setCell ⟨b, 0, none⟩ v') := by
  subst en
  subst ex
  have hb := h.lt b h.here
  have hbn : b ∉ v.ownBlock.toList := fun hx => (hg b (by simpa using hx)).2 rfl
  have hA2 := (hA.mod m hbn).set 0 v'
  have hvb : ∀ g, v'.ownBlock = some g → g ≠ b := by
    intro g hg'
    rcases hv g hg' with h1 | h1
    · exact (hg g h1).2
    · omega
  have ms : Mod [b] w2 (w2.setCell ⟨b, 0, none⟩ v') := (Mod.refl _ _).setCell (.inl (by simp)) _
  refine ⟨F ++ v'.ownBlock.toList, ⟨⟨v', hA2.congr fun i hi => by simp [show i = 0 by omega], own_mod ho ms (fun k hk => by simpa using hvb k hk), fun g hg' => ⟨by simp [hg'], hvb g hg'⟩⟩, by simp [h.here], fun x hx => ?_⟩, ⟨?_, fun x hx => ?_⟩⟩
  · simp only [List.mem_append] at hx
    rcases hx with hx | hx
    · have := h.lt x hx; have := m.size; simp; omega
    · have := own_lt' ho x (by simpa using hx); simpa using this.2
  · exact (m.mono fun x hx => (hg x (by simpa using hx)).1).setCell (.inl h.here) _
  · simp only [List.mem_append] at hx
    rcases hx with hx | hx
    · exact .inl hx
    · rcases hv x (by simpa using hx) with h1 | h1
      · exact .inl (hg x h1).1
      · exact .inr h1
theorem u8_info : (Tryd.prog.info? 5).map (fun i => (i.zero, i.size, i.bytes)) = some (some (.int .u8 0), 1, 1) := by kernel_rfl
/-- The bytes as a text. -/
theorem conv_bs (w : World) (v : Value) (bs : List UInt8) (ho : w.ownsRow 0 5 1 v bs.length (bs.map u8V)) :
    (convert 140 9 v).run Tryd.prog w = .ok (.string ⟨bs.toArray⟩) w := by
  rcases Nat.eq_zero_or_pos bs.length with h0 | h0
  · obtain rfl : bs = [] := List.eq_nil_of_length_eq_zero h0
    obtain ⟨A, cap, rfl, _, _, _⟩ := (own_slA ho).ex
    cases A with
    | none =>
      rw [run_convert_bytes_string w _ _ _ _ _ _ Tryd.underlying140 Tryd.underlying5 Tryd.underlying9]
      simp [Conv.bytesToString]
      rfl
    | some a => exact run_convert_bytes_back w 140 9 5 a cap [] Tryd.underlying140 Tryd.underlying5 Tryd.underlying9 (fun j hj => absurd hj (by simp))
  · obtain ⟨g, cap, rfl, _, _, _, hA⟩ := own_arr ho h0
    refine run_convert_bytes_back w 140 9 5 ⟨g, 0, none⟩ cap bs Tryd.underlying140 Tryd.underlying5 Tryd.underlying9 ?_
    intro j hj
    have e : (⟨g, 0, none⟩ : Addr).add j = ⟨g, j, none⟩ := by
      unfold Addr.add
      by_cases z : j = 0 <;> simp [z]
    rw [e, hA.cell j (by omega)]
    simp [List.getD_eq_getElem?_getD, List.getElem?_eq_getElem hj, u8V]

set_option maxRecDepth 100000 in
set_option maxHeartbeats 2000000 in
theorem put_calls (w : World) (b : Nat) (bs : List UInt8) (F : List Nat) (n k : Nat) (hW : Wtr w 164 b bs F) (hn : n < 9223372036854775808) (hk : k ≤ 8) (hl : bs.length ≤ 500000) :
    Calls Tryd.prog 80 #[.pointer (some ⟨b, 0, none⟩), .int .i64 n, .int .i64 k] w fun r w' => r = .returned (.tuple #[]) ∧ ∃ F', Wtr w' 164 b (bs ++ leB n k) F' ∧ Grow F F' w w' := by
  have HW := Lib.hid hW
  have HL := Lib.hid hl
  clear hW hl
  go_enter Tryd.func80, Tryd.ntmps80
  go_wp2
  go_loopw [1, 7] (fun x i wr => ∃ (j : Nat) (F' : List Nat), j ≤ k ∧ i = .int .i64 j ∧ x = .int .i64 ((n / 256 ^ j : Nat) : Int) ∧ Wtr wr 164 b (bs ++ leB n j) F' ∧ Grow F F' w wr) (fun _ i _ => k - (intOf i).toNat)
  case atStart => exact ⟨0, F, Nat.zero_le _, rfl, by simp, by rw [leB_zero, List.append_nil]; exact HW.out, Grow.refl _ _⟩
  case round =>
    obtain ⟨j, F', hj, rfl, rfl, hR, hG⟩ := hrel
    clear HW
    by_cases hlt : j < k
    · have i2 : (j : Int) < (k : Int) := by omega
      obtain ⟨v, hA, ho, hg⟩ := hR.ex
      have hlen : (bs ++ leB n j).length ≤ 600000 := by have := HL.out; simp [leB_length]; omega
      have HG := Lib.hid hG
      have HR := Lib.hid hR
      obtain ⟨nj, hnj⟩ : ∃ nj : Nat, nj = n / 256 ^ j := ⟨_, rfl⟩
      have hnj1 : nj < 9223372036854775808 := by rw [hnj]; exact Nat.lt_of_le_of_lt (Nat.div_le_self _ _) hn
      have hsuc : n / 256 ^ (j + 1) = nj / 256 := by rw [hnj, Nat.pow_succ, Nat.div_div_eq_div_mul]
      have hbl : bs ++ leB n (j + 1) = (bs ++ leB n j) ++ [UInt8.ofNat (nj % 256)] := by rw [leB_succ, hnj, List.append_assoc]
      have HS := Lib.hid hsuc
      have HBL := Lib.hid hbl
      rw [← hnj]
      obtain ⟨bj, hbj⟩ : ∃ bj, bj = bs ++ leB n j := ⟨_, rfl⟩
      have HBJ := Lib.hid hbj
      rw [← hbj] at ho hlen
      obtain ⟨w2, hw2⟩ : ∃ w2, w2 = wr.alloc (.cells #[.int .u8 ((nj : Int) % 256)] 5) := ⟨_, rfl⟩
      have m2 : Mod [] wr w2 := by rw [hw2]; exact (Mod.refl _ _).alloc _
      have cn : w2.cell? ⟨wr.heap.size, 0, none⟩ = some (.int .u8 ((nj : Int) % 256)) := by rw [hw2]; exact new_cell1 wr _ _ _ rfl
      have hA2 := hA.mod m2 (by simp)
      have ho2 := own_mod ho m2 (by simp)
      have c0 := hA.cell 0 (by omega)
      have hz2 : 0 ≤ w2.heap.size := Nat.zero_le _
      have hzz := m2.size
      have HA := Lib.hid hA
      have HA2 := Lib.hid hA2
      have HW2 := Lib.hid hw2
      have M2 := Lib.hid m2
      have HGG := Lib.hid hg
      clear hG hR hnj hsuc hbl hbj hw2 m2 hA hA2 ho hg
      go_wp2_with (
        at_builtin
        rw [← HW2.out]
        refine app1 0 140 5 (.int .u8 0) 1 1 Tryd.underlying140 u8_info rfl (by omega) (by omega) rfl _ _ rfl v _ _ rfl ho2 wr.heap.size [.int .u8 ((nj : Int) % 256)] rfl rfl (news1 cn) (by simp [Value.oneCell']) (by omega) (by omega) ?_
        intro ga cap w3 ho3 m3 hg3 hb3
        have hbn : b ∉ v.ownBlock.toList := fun hx => (HGG.out b (by simpa using hx)).2 rfl
        have hA3 := HA2.out.mod m3 hbn
        have c3 := hA3.cell 0 (by omega)
        have f3 := hA3.free 0
        have ST := Lib.hid ((HR.out.mod0 M2.out).stored HA2.out HGG.out m3 ho3 (bs' := bj ++ [UInt8.ofNat (nj % 256)]) (by simp) (by simp [u8_ofNat]) (fun g e => by
          simp only [Value.ownBlock, Option.map_some, Option.some.injEq] at e
          rcases hg3 with h1 | h1
          · left; rw [h1]; simp_all
          · right; omega))
        clear hA3 ho3 m3 ho2 cn hbn)
      go_roundw
      case rel =>
        obtain ⟨F2, hW2, hG2⟩ := ST.out
        exact ⟨j + 1, F2, by omega, by go_num, by rw [HS.out]; simp, by rw [HBL.out, ← HBJ.out]; exact hW2, HG.out.trans ((Grow.of_mod M2.out).trans hG2)⟩
      case measure => simp [intOf]; omega
    · have i2 : ¬ (j : Int) < (k : Int) := by omega
      obtain rfl : j = k := by omega
      have F9 := Lib.hid (And.intro hR hG)
      clear hR hG
      go_wp2
      go_end0
      exact ⟨rfl, F', F9.out.1, F9.out.2⟩
theorem newWriter_calls (w : World) :
    Calls Tryd.prog 64 #[] w fun r w' => r = .returned (.pointer (some ⟨w.heap.size, 0, none⟩)) ∧ Wtr w' 164 w.heap.size [] [w.heap.size] ∧ Mod [] w w' := by
  have H := Wtr.new w 164
  have m : Mod [] w (w.alloc (.cells #[.slice none 0 0] 164)) := (Mod.refl _ _).alloc _
  go_enter Tryd.func64, Tryd.ntmps64
  go_wp2
  go_ret
  exact ⟨rfl, H, m⟩
theorem wbytes_calls (w : World) (b : Nat) (bs : List UInt8) (F : List Nat) (hW : Wtr w 164 b bs F) :
    Calls Tryd.prog 66 #[.pointer (some ⟨b, 0, none⟩)] w fun r w' => r = .returned (.string ⟨bs.toArray⟩) ∧ w = w' := by
  obtain ⟨v, hA, ho, _⟩ := hW.ex
  have c0 := hA.cell 0 (by omega)
  have cv := conv_bs w v bs ho
  clear hW hA ho
  go_enter Tryd.func66, Tryd.ntmps66
  go_wp2
  go_ret
  exact ⟨rfl, rfl⟩
/-- What a writing call leaves: an error v of the chain l; the writer has bs'. -/
def WrPost (w : World) (T b : Nat) (F : List Nat) (l : List Int) (bs' : List UInt8) (r : Ending) (w' : World) : Prop :=
  ∃ v E F', r = .returned v ∧ Errs w' v l E ∧ (∀ x, x ∈ E → w.heap.size ≤ x ∧ x ∉ F') ∧ Wtr w' T b bs' F' ∧ Grow F F' w w'
theorem WrPost.bad {w w' : World} {T b : Nat} {bs : List UInt8} {F : List Nat} {l : List Int} {v : Value} {E : List Nat} (hW : Wtr w T b bs F) (hE : Errs w' v l E) (hx : ∀ x, x ∈ E → w.heap.size ≤ x) (m : Mod [] w w') : WrPost w T b F l bs (.returned v) w' :=
  ⟨v, E, F, rfl, hE, fun x h => ⟨hx x h, fun hF => by have := hx x h; have := hW.lt x hF; omega⟩, hW.mod0 m, Grow.of_mod m⟩
theorem WrPost.good {w w' : World} {T b : Nat} {bs : List UInt8} {F F' : List Nat} (hW : Wtr w' T b bs F') (hG : Grow F F' w w') : WrPost w T b F [] bs (.returned .nilIface) w' :=
  ⟨_, [], F', rfl, .nil, by simp, hW, hG⟩
theorem fit_yes {n k : Int} (h : fitB n k = true) : numL n k = [] ∧ ∀ bs, numB bs n k = bs ++ leB n.toNat k.toNat := by simp [numL, numB, h]
theorem fit_no {n k : Int} (h : fitB n k = false) : numL n k = [1] ∧ ∀ bs, numB bs n k = bs := by simp [numL, numB, h]
set_option maxRecDepth 100000 in
set_option maxHeartbeats 4000000 in
theorem wnum_calls (w : World) (b : Nat) (bs : List UInt8) (F : List Nat) (n k : Int) (hW : Wtr w 164 b bs F) (n0 : -9223372036854775808 ≤ n) (n1 : n ≤ 9223372036854775807) (k0 : -9223372036854775808 ≤ k) (k1 : k ≤ 9223372036854775807) (hl : bs.length ≤ 400000) :
    Calls Tryd.prog 65 #[.pointer (some ⟨b, 0, none⟩), .int .i64 n, .int .i64 k] w (WrPost w 164 b F (numL n k) (numB bs n k)) := by
  obtain ⟨v, hA, ho, _⟩ := hW.ex
  have c0 := hA.cell 0 (by omega)
  obtain ⟨A9, cap9, rfl, hc9, hc9', _⟩ := (own_slA ho).ex
  have HC := Lib.hid hc9'
  have HW := Lib.hid hW
  have BAD := Lib.hid (wrapE_calls w 1 bs.length .nilIface [] [] (by omega) .nil)
  clear hA ho hc9' hW
  by_cases hw : wideB k = true
  rotate_left
  · have hw' : wideB k = false := by simpa using hw
    have hf := Lib.hid (fit_no (n := n) (k := k) (by simp [fitB, hw']))
    have ne1 : (k == 1) = false := by simp [wideB] at hw; simp; omega
    have ne2 : (k == 2) = false := by simp [wideB] at hw; simp; omega
    have ne4 : (k == 4) = false := by simp [wideB] at hw; simp; omega
    have ne8 : (k == 8) = false := by simp [wideB] at hw; simp; omega
    clear hw hw'
    go_enter Tryd.func65, Tryd.ntmps65
    go_wp2_with (go_at_call 77; refine BAD.out.mono ?_; rintro r w1 ⟨v, rfl, hE, m1⟩; have P1 := Lib.hid (WrPost.bad HW.out hE (fun x hx => by simp at hx; omega) m1); clear hE m1)
    go_ret
    rw [hf.out.1, hf.out.2]
    exact P1.out
  have hk4 : k = 1 ∨ k = 2 ∨ k = 4 ∨ k = 8 := by simpa [wideB] using hw
  clear hw
  by_cases hfit : fitB n k = true
  · have hf := Lib.hid (fit_yes hfit)
    have hfit' : (k = 1 ∨ k = 2 ∨ k = 4 ∨ k = 8) ∧ 0 ≤ n ∧ (k = 8 ∨ n < 2 ^ (8 * k.toNat)) := by simpa [fitB, wideB] using hfit
    obtain ⟨_, hn0, hnk⟩ := hfit'
    obtain ⟨nn, rfl⟩ : ∃ nn : Nat, n = (nn : Int) := ⟨n.toNat, by omega⟩
    have hn9 : nn < 9223372036854775808 := by omega
    clear hfit
    rcases hk4 with rfl | rfl | rfl | rfl
    · have hm : (nn : Int) ≤ 255 := by simp at hnk; omega
      have t1 : decide ((nn : Int) < 0) = false := by simp
      have t2 : decide ((255 : Int) < (nn : Int)) = false := by simp; omega
      have P := Lib.hid (put_calls w b bs F nn 1 HW.out hn9 (by omega) (by omega))
      clear hnk
      go_enter Tryd.func65, Tryd.ntmps65
      go_wp2_with (go_at_call 80; refine P.out.mono ?_; rintro r w1 ⟨rfl, PW⟩; have P1 := Lib.hid PW; clear PW)
      go_ret
      obtain ⟨F', hW', hG'⟩ := P1.out
      rw [hf.out.1, hf.out.2]
      exact WrPost.good hW' hG'
    · have hm : (nn : Int) ≤ 65535 := by simp at hnk; omega
      have t1 : decide ((nn : Int) < 0) = false := by simp
      have t2 : decide ((65535 : Int) < (nn : Int)) = false := by simp; omega
      have P := Lib.hid (put_calls w b bs F nn 2 HW.out hn9 (by omega) (by omega))
      clear hnk
      go_enter Tryd.func65, Tryd.ntmps65
      go_wp2_with (go_at_call 80; refine P.out.mono ?_; rintro r w1 ⟨rfl, PW⟩; have P1 := Lib.hid PW; clear PW)
      go_ret
      obtain ⟨F', hW', hG'⟩ := P1.out
      rw [hf.out.1, hf.out.2]
      exact WrPost.good hW' hG'
    · have hm : (nn : Int) ≤ 4294967295 := by simp at hnk; omega
      have t1 : decide ((nn : Int) < 0) = false := by simp
      have t2 : decide ((4294967295 : Int) < (nn : Int)) = false := by simp; omega
      have P := Lib.hid (put_calls w b bs F nn 4 HW.out hn9 (by omega) (by omega))
      clear hnk
      go_enter Tryd.func65, Tryd.ntmps65
      go_wp2_with (go_at_call 80; refine P.out.mono ?_; rintro r w1 ⟨rfl, PW⟩; have P1 := Lib.hid PW; clear PW)
      go_ret
      obtain ⟨F', hW', hG'⟩ := P1.out
      rw [hf.out.1, hf.out.2]
      exact WrPost.good hW' hG'
    · have hm : (nn : Int) ≤ 9223372036854775807 := by simp at hnk; omega
      have t1 : decide ((nn : Int) < 0) = false := by simp
      have t2 : decide ((9223372036854775807 : Int) < (nn : Int)) = false := by simp; omega
      have P := Lib.hid (put_calls w b bs F nn 8 HW.out hn9 (by omega) (by omega))
      clear hnk
      go_enter Tryd.func65, Tryd.ntmps65
      go_wp2_with (go_at_call 80; refine P.out.mono ?_; rintro r w1 ⟨rfl, PW⟩; have P1 := Lib.hid PW; clear PW)
      go_ret
      obtain ⟨F', hW', hG'⟩ := P1.out
      rw [hf.out.1, hf.out.2]
      exact WrPost.good hW' hG'
  · have hf := Lib.hid (fit_no (by simpa using hfit))
    have hfit' : ¬ (0 ≤ n ∧ (k = 8 ∨ n < 2 ^ (8 * k.toNat))) := by
      intro h
      exact hfit (by simpa [fitB, wideB] using ⟨hk4, h⟩)
    clear hfit
    by_cases hn : n < 0
    · rcases hk4 with rfl | rfl | rfl | rfl
      · have t1 : decide (n < 0) = true := by simpa using hn
        clear hfit' hn
        go_enter Tryd.func65, Tryd.ntmps65
        go_wp2_with (go_at_call 77; refine BAD.out.mono ?_; rintro r w1 ⟨v, rfl, hE, m1⟩; have P1 := Lib.hid (WrPost.bad HW.out hE (fun x hx => by simp at hx; omega) m1); clear hE m1)
        go_ret
        rw [hf.out.1, hf.out.2]
        exact P1.out
      · have t1 : decide (n < 0) = true := by simpa using hn
        clear hfit' hn
        go_enter Tryd.func65, Tryd.ntmps65
        go_wp2_with (go_at_call 77; refine BAD.out.mono ?_; rintro r w1 ⟨v, rfl, hE, m1⟩; have P1 := Lib.hid (WrPost.bad HW.out hE (fun x hx => by simp at hx; omega) m1); clear hE m1)
        go_ret
        rw [hf.out.1, hf.out.2]
        exact P1.out
      · have t1 : decide (n < 0) = true := by simpa using hn
        clear hfit' hn
        go_enter Tryd.func65, Tryd.ntmps65
        go_wp2_with (go_at_call 77; refine BAD.out.mono ?_; rintro r w1 ⟨v, rfl, hE, m1⟩; have P1 := Lib.hid (WrPost.bad HW.out hE (fun x hx => by simp at hx; omega) m1); clear hE m1)
        go_ret
        rw [hf.out.1, hf.out.2]
        exact P1.out
      · have t1 : decide (n < 0) = true := by simpa using hn
        clear hfit' hn
        go_enter Tryd.func65, Tryd.ntmps65
        go_wp2_with (go_at_call 77; refine BAD.out.mono ?_; rintro r w1 ⟨v, rfl, hE, m1⟩; have P1 := Lib.hid (WrPost.bad HW.out hE (fun x hx => by simp at hx; omega) m1); clear hE m1)
        go_ret
        rw [hf.out.1, hf.out.2]
        exact P1.out
    · have hn0 : 0 ≤ n := by omega
      rcases hk4 with rfl | rfl | rfl | rfl
      · have t1 : decide (n < 0) = false := by simpa using hn
        have hm : 255 < n := by simp at hfit'; omega
        have t2 : decide ((255 : Int) < n) = true := by simpa using hm
        clear hfit' hn
        go_enter Tryd.func65, Tryd.ntmps65
        go_wp2_with (go_at_call 77; refine BAD.out.mono ?_; rintro r w1 ⟨v, rfl, hE, m1⟩; have P1 := Lib.hid (WrPost.bad HW.out hE (fun x hx => by simp at hx; omega) m1); clear hE m1)
        go_ret
        rw [hf.out.1, hf.out.2]
        exact P1.out
      · have t1 : decide (n < 0) = false := by simpa using hn
        have hm : 65535 < n := by simp at hfit'; omega
        have t2 : decide ((65535 : Int) < n) = true := by simpa using hm
        clear hfit' hn
        go_enter Tryd.func65, Tryd.ntmps65
        go_wp2_with (go_at_call 77; refine BAD.out.mono ?_; rintro r w1 ⟨v, rfl, hE, m1⟩; have P1 := Lib.hid (WrPost.bad HW.out hE (fun x hx => by simp at hx; omega) m1); clear hE m1)
        go_ret
        rw [hf.out.1, hf.out.2]
        exact P1.out
      · have t1 : decide (n < 0) = false := by simpa using hn
        have hm : 4294967295 < n := by simp at hfit'; omega
        have t2 : decide ((4294967295 : Int) < n) = true := by simpa using hm
        clear hfit' hn
        go_enter Tryd.func65, Tryd.ntmps65
        go_wp2_with (go_at_call 77; refine BAD.out.mono ?_; rintro r w1 ⟨v, rfl, hE, m1⟩; have P1 := Lib.hid (WrPost.bad HW.out hE (fun x hx => by simp at hx; omega) m1); clear hE m1)
        go_ret
        rw [hf.out.1, hf.out.2]
        exact P1.out
      · exact absurd ⟨hn0, .inl rfl⟩ hfit'
theorem text_yes {s : ByteArray} (h : s.size ≤ 1024) : textL s = [] ∧ ∀ bs, textB bs s = bs ++ leB s.size 2 ++ s.data.toList := by simp [textL, textB, h]
theorem text_no {s : ByteArray} (h : ¬ s.size ≤ 1024) : textL s = [11] ∧ ∀ bs, textB bs s = bs := by simp [textL, textB, h]
attribute [local go_sem ↓] Go.wp_at_zero Go.wp_at_succ

theorem results_cell1 {fn : Func} {p : Tmp} {ty : TypeId} (h : fn.results = #[.cell p ty]) (tmps : Array Value) (P : Program) (w : World) :
    (results fn tmps).run P w = ((asAddr (tmps.getD p undef)).run P w).andThen fun a w₁ => (loadVar ty a).run P w₁ := by
  simp only [results, h]
  simp [Sem.run_bind, Result.andThen]
/-- A fault of the document's: its errors l lie in the blocks E. -/
def RF (w : World) (v : Value) (l : List Int) (E : List Nat) : Prop :=
  ∃ sv at_, v = .agg #[sv, .int .i64 at_] ∧ w.ownsRow 0 29 1 sv l.length (ints l) ∧ ∀ g, sv.ownBlock = some g → g ∈ E
theorem RF.mod {S : List Nat} {w w' : World} {v : Value} {l : List Int} {E : List Nat} (h : RF w v l E) (m : Mod S w w') (hs : ∀ x, x ∈ E → x ∉ S) : RF w' v l E := by
  obtain ⟨sv, a, h1, h2, h3⟩ := h
  exact ⟨sv, a, h1, own_mod h2 m (fun k hk => hs k (h3 k hk)), h3⟩
theorem RF.mod0 {w w' : World} {v : Value} {l : List Int} {E : List Nat} (h : RF w v l E) (m : Mod [] w w') : RF w' v l E := h.mod m (by simp)
theorem RF.none (w : World) : RF w (.agg #[.slice none 0 0, .int .i64 0]) [] [] := ⟨_, _, rfl, own_nil _ _ _ _, fun g hg => by simp [Value.ownBlock] at hg⟩
/-- A block of one number, as a row. -/
theorem own_one (w : World) (e : Int) : (w.alloc (.cells #[.int .i64 e] 29)).ownsRow 0 29 1 (.slice (some ⟨w.heap.size, 0, none⟩) 1 1) 1 (ints [e]) :=
  ⟨rfl, .inr ⟨w.heap.size, 1, #[.int .i64 e], rfl, Nat.zero_le _, heap_alloc_new w _, Nat.le_refl _, by decide, rfl, rfl⟩⟩
set_option maxHeartbeats 1000000 in
theorem one_calls (w : World) (e a : Int) :
    Calls Tryd.prog 79 #[.int .i64 e, .int .i64 a] w fun r w' => r = .returned (.agg #[.slice (some ⟨w.heap.size + 1, 0, none⟩) 1 1, .int .i64 a]) ∧ w'.ownsRow 0 29 1 (.slice (some ⟨w.heap.size + 1, 0, none⟩) 1 1) 1 (ints [e]) ∧ Mod [] w w' := by
  obtain ⟨w1, hw1⟩ : ∃ w1, w1 = w.alloc (.cells #[.slice (some ⟨w.heap.size + 1, 0, none⟩) 1 1, .int .i64 a] 130) := ⟨_, rfl⟩
  have hz : w1.heap.size = w.heap.size + 1 := by rw [hw1]; simp
  have ho := own_one w1 e
  rw [hz] at ho
  have m1 : Mod [] w (w1.alloc (.cells #[.int .i64 e] 29)) := by rw [hw1]; exact ((Mod.refl _ _).alloc _).alloc _
  rw [hw1] at ho m1
  have HO := Lib.hid ho
  have M1 := Lib.hid m1
  clear ho m1 hz hw1
  go_enter Tryd.func79, Tryd.ntmps79
  go_wp2
  (try simp only [Exit.inBlock, Exit.then])
  refine bodyPost_ret (v := .agg #[.slice (some ⟨w.heap.size + 1, 0, none⟩) 1 1, .int .i64 a]) ?_ rfl ?_
  · rw [results_cell1 rfl]
    go_simp
  · exact ⟨rfl, HO.out, M1.out⟩
theorem oneRF_calls (w : World) (e a : Int) :
    Calls Tryd.prog 79 #[.int .i64 e, .int .i64 a] w fun r w' => ∃ sv, r = .returned (.agg #[sv, .int .i64 a]) ∧ RF w' (.agg #[sv, .int .i64 a]) [e] [w.heap.size + 1] ∧ (∃ A c, sv = .slice A 1 c) ∧ Mod [] w w' := by
  refine (one_calls w e a).mono ?_
  rintro r w' ⟨rfl, ho, m⟩
  exact ⟨_, rfl, ⟨_, _, rfl, ho, fun g hg => by simp [Value.ownBlock] at hg; simp [hg]⟩, ⟨_, _, rfl⟩, m⟩
theorem rwide_calls (w : World) (k : Int) (b : Bool) (hb : wideB k = b) :
    Calls Tryd.prog 78 #[.int .i64 k] w fun r w' => r = .returned (.bool b) ∧ w = w' := by
  subst hb
  by_cases hw : wideB k = true
  · have hk4 : k = 1 ∨ k = 2 ∨ k = 4 ∨ k = 8 := by simpa [wideB] using hw
    rw [hw]
    clear hw
    rcases hk4 with rfl | rfl | rfl | rfl
    all_goals
      go_enter Tryd.func78, Tryd.ntmps78
      go_wp2
      go_ret
      exact ⟨rfl, rfl⟩
  · have ne1 : (k == 1) = false := by simp [wideB] at hw; simp; omega
    have ne2 : (k == 2) = false := by simp [wideB] at hw; simp; omega
    have ne4 : (k == 4) = false := by simp [wideB] at hw; simp; omega
    have ne8 : (k == 8) = false := by simp [wideB] at hw; simp; omega
    have hw' : wideB k = false := by simpa using hw
    rw [hw']
    clear hw hw'
    go_enter Tryd.func78, Tryd.ntmps78
    go_wp2
    go_ret
    exact ⟨rfl, rfl⟩
theorem wide_casesW {k : Int} (h : wideB k = true) : k = 1 ∨ k = 2 ∨ k = 4 ∨ k = 8 := by simpa [wideB] using h
/-- What a writing call of the document's leaves. -/
def RWrPost (w : World) (T b : Nat) (F : List Nat) (l : List Int) (bs' : List UInt8) (r : Ending) (w' : World) : Prop :=
  ∃ v E F', r = .returned v ∧ RF w' v l E ∧ (∀ x, x ∈ E → w.heap.size ≤ x ∧ x ∉ F') ∧ Wtr w' T b bs' F' ∧ Grow F F' w w'
theorem RWrPost.bad {w w' : World} {T b : Nat} {bs : List UInt8} {F : List Nat} {l : List Int} {v : Value} {E : List Nat} (hW : Wtr w T b bs F) (hE : RF w' v l E) (hx : ∀ x, x ∈ E → w.heap.size ≤ x) (m : Mod [] w w') : RWrPost w T b F l bs (.returned v) w' :=
  ⟨v, E, F, rfl, hE, fun x h => ⟨hx x h, fun hF => by have := hx x h; have := hW.lt x hF; omega⟩, hW.mod0 m, Grow.of_mod m⟩
theorem RWrPost.good {w w' : World} {T b : Nat} {bs : List UInt8} {F F' : List Nat} (hW : Wtr w' T b bs F') (hG : Grow F F' w w') : RWrPost w T b F [] bs (.returned (.agg #[.slice none 0 0, .int .i64 0])) w' :=
  ⟨_, [], F', rfl, RF.none _, by simp, hW, hG⟩
theorem RWrPost.badS {w w1 : World} {T b : Nat} {bs : List UInt8} {F : List Nat} {l : List Int} {v : Value} {E : List Nat} (hW : Wtr w T b bs F) (hE : RF w1 v l E) (hx : ∀ x, x ∈ E → w.heap.size < x) (m : Mod [] w w1) (u0 u1 : Value) :
    RWrPost w T b F l bs (.returned v) ((w1.setCell ⟨w.heap.size, 0, none⟩ u0).setCell ⟨w.heap.size, 1, none⟩ u1) :=
  RWrPost.bad hW (hE.mod (S := [w.heap.size]) (((Mod.refl _ _).setCell (.inl (by simp)) _).setCell (.inl (by simp)) _) (fun x h => by have := hx x h; simp; omega)) (fun x h => by have := hx x h; omega) ((m.setCell (.inr (Nat.le_refl _)) _).setCell (.inr (Nat.le_refl _)) _)
theorem RWrPost.goodS {w w0 w1 : World} {T b : Nat} {bs : List UInt8} {F F' : List Nat} (hl : ∀ x, x ∈ F → x < w.heap.size) (m0 : Mod [] w w0) (hz : w0.heap.size = w.heap.size + 1) (hW : Wtr w1 T b bs F') (hG : Grow F F' w0 w1) (u0 u1 : Value) :
    RWrPost w T b F [] bs (.returned (.agg #[.slice none 0 0, .int .i64 0])) ((w1.setCell ⟨w.heap.size, 0, none⟩ u0).setCell ⟨w.heap.size, 1, none⟩ u1) := by
  have hn : ∀ x, x ∈ F' → x ≠ w.heap.size := fun x hx => by
    rcases hG.new x hx with h1 | h1
    · have := hl x h1; omega
    · omega
  have ms : Mod [w.heap.size] w1 ((w1.setCell ⟨w.heap.size, 0, none⟩ u0).setCell ⟨w.heap.size, 1, none⟩ u1) := ((Mod.refl _ _).setCell (.inl (by simp)) _).setCell (.inl (by simp)) _
  refine RWrPost.good (hW.mod ms (fun x hx => by simpa using hn x hx)) ⟨(m0.nil.trans hG.mod).fresh ms (fun x hx => .inr (by simp at hx; omega)), fun x hx => ?_⟩
  rcases hG.new x hx with h1 | h1
  · exact .inl h1
  · exact .inr (by omega)
/-- The result's cells. -/
theorem res_arr (w : World) : Arr (w.alloc (.cells #[.slice none 0 0, .int .i64 0] 130)) w.heap.size 130 2 (fun i => if i = 0 then .slice none 0 0 else .int .i64 0) :=
  Arr.new' w #[.slice none 0 0, .int .i64 0] 130 2 _ rfl (fun i hi => by
    match i, hi with
    | 0, _ => rfl
    | 1, _ => rfl)
set_option maxRecDepth 100000 in
set_option maxHeartbeats 8000000 in
theorem rwnum_calls (w : World) (b : Nat) (bs : List UInt8) (F : List Nat) (n k : Int) (hW : Wtr w 142 b bs F) (n0 : -9223372036854775808 ≤ n) (n1 : n ≤ 9223372036854775807) (k0 : -9223372036854775808 ≤ k) (k1 : k ≤ 9223372036854775807) (hl : bs.length ≤ 400000) :
    Calls Tryd.prog 67 #[.pointer (some ⟨b, 0, none⟩), .int .i64 n, .int .i64 k] w (RWrPost w 142 b F (numL n k) (numB bs n k)) := by
  have HW := Lib.hid hW
  have WI := Lib.hid (rwide_calls (w.alloc (.cells #[.slice none 0 0, .int .i64 0] 130)) k _ rfl)
  have m0 : Mod [] w (w.alloc (.cells #[.slice none 0 0, .int .i64 0] 130)) := (Mod.refl _ _).alloc _
  have hW1 := hW.mod0 m0
  have HW1 := Lib.hid hW1
  have M0 := Lib.hid m0
  have ONE := Lib.hid (oneRF_calls (w.alloc (.cells #[.slice none 0 0, .int .i64 0] 130)) 1 bs.length)
  obtain ⟨v, hA, ho, _⟩ := hW1.ex
  have c0 := hA.cell 0 (by omega)
  obtain ⟨A9, cap9, rfl, hc9, hc9', _⟩ := (own_slA ho).ex
  have HC := Lib.hid hc9'
  have hsz1 : w.heap.size + 1 = (w.alloc (.cells #[.slice none 0 0, .int .i64 0] 130)).heap.size := by simp
  have HSZ := Lib.hid hsz1
  clear hA ho hc9' hW hW1 m0 hsz1
  by_cases hfit : fitB n k = true
  rotate_left
  · have hf := Lib.hid (fit_no (by simpa using hfit))
    by_cases hw : wideB k = true
    · rw [hw] at WI
      have hk4 := wide_casesW hw
      have hfit' : ¬ (0 ≤ n ∧ (k = 8 ∨ n < 2 ^ (8 * k.toNat))) := by
        intro h
        exact hfit (by simpa [fitB, wideB] using ⟨hk4, h⟩)
      clear hfit hw
      by_cases hn : n < 0
      · have t1 : decide (n < 0) = true := by simpa using hn
        clear hfit' hn hk4
        go_enter Tryd.func67, Tryd.ntmps67
        go_wp2_with fail
        refine WI.out.mono ?_
        rintro r w1 ⟨rfl, rfl⟩
        go_wp2_with fail
        refine ONE.out.mono ?_
        rintro r w1 ⟨sv, rfl, hRF, ⟨A, c, rfl⟩, m1⟩
        have hAR := (res_arr w).mod m1 (by simp)
        have r0 := hAR.cell 0 (by omega)
        have r1 := hAR.cell 1 (by omega)
        have g0 := hAR.free 0
        have g1 := hAR.free 1
        simp only [if_true, if_false, Nat.reduceEqDiff] at r0 r1
        have FIN := Lib.hid (And.intro hRF m1)
        clear hRF m1 hAR
        go_wp2
        (try simp only [Exit.inBlock, Exit.then])
        refine bodyPost_ret (v := .agg #[.slice A 1 c, .int .i64 bs.length]) ?_ rfl ?_
        · rw [results_cell1 rfl]
          go_simp
        · rw [hf.out.1, hf.out.2]
          exact RWrPost.badS HW.out FIN.out.1 (fun x hx => by have := HSZ.out; simp at hx; omega) (M0.out.trans FIN.out.2) _ _
      · have hn0 : 0 ≤ n := by omega
        have t1 : decide (n < 0) = false := by simpa using hn
        rcases hk4 with rfl | rfl | rfl | rfl
        · have hm : 256 ≤ n := by simp at hfit'; omega
          have t2 : decide ((256 : Int) ≤ n) = true := by simpa using hm
          clear hfit' hn
          go_enter Tryd.func67, Tryd.ntmps67
          go_wp2_with fail
          refine WI.out.mono ?_
          rintro r w1 ⟨rfl, rfl⟩
          go_wp2_with fail
          refine ONE.out.mono ?_
          rintro r w1 ⟨sv, rfl, hRF, ⟨A, c, rfl⟩, m1⟩
          have hAR := (res_arr w).mod m1 (by simp)
          have r0 := hAR.cell 0 (by omega)
          have r1 := hAR.cell 1 (by omega)
          have g0 := hAR.free 0
          have g1 := hAR.free 1
          simp only [if_true, if_false, Nat.reduceEqDiff] at r0 r1
          have FIN := Lib.hid (And.intro hRF m1)
          clear hRF m1 hAR
          go_wp2
          (try simp only [Exit.inBlock, Exit.then])
          refine bodyPost_ret (v := .agg #[.slice A 1 c, .int .i64 bs.length]) ?_ rfl ?_
          · rw [results_cell1 rfl]
            go_simp
          · rw [hf.out.1, hf.out.2]
            exact RWrPost.badS HW.out FIN.out.1 (fun x hx => by have := HSZ.out; simp at hx; omega) (M0.out.trans FIN.out.2) _ _
        · have hm : 65536 ≤ n := by simp at hfit'; omega
          have t2 : decide ((65536 : Int) ≤ n) = true := by simpa using hm
          clear hfit' hn
          go_enter Tryd.func67, Tryd.ntmps67
          go_wp2_with fail
          refine WI.out.mono ?_
          rintro r w1 ⟨rfl, rfl⟩
          go_wp2_with fail
          refine ONE.out.mono ?_
          rintro r w1 ⟨sv, rfl, hRF, ⟨A, c, rfl⟩, m1⟩
          have hAR := (res_arr w).mod m1 (by simp)
          have r0 := hAR.cell 0 (by omega)
          have r1 := hAR.cell 1 (by omega)
          have g0 := hAR.free 0
          have g1 := hAR.free 1
          simp only [if_true, if_false, Nat.reduceEqDiff] at r0 r1
          have FIN := Lib.hid (And.intro hRF m1)
          clear hRF m1 hAR
          go_wp2
          (try simp only [Exit.inBlock, Exit.then])
          refine bodyPost_ret (v := .agg #[.slice A 1 c, .int .i64 bs.length]) ?_ rfl ?_
          · rw [results_cell1 rfl]
            go_simp
          · rw [hf.out.1, hf.out.2]
            exact RWrPost.badS HW.out FIN.out.1 (fun x hx => by have := HSZ.out; simp at hx; omega) (M0.out.trans FIN.out.2) _ _
        · have hm : 4294967296 ≤ n := by simp at hfit'; omega
          have t2 : decide ((4294967296 : Int) ≤ n) = true := by simpa using hm
          clear hfit' hn
          go_enter Tryd.func67, Tryd.ntmps67
          go_wp2_with fail
          refine WI.out.mono ?_
          rintro r w1 ⟨rfl, rfl⟩
          go_wp2_with fail
          refine ONE.out.mono ?_
          rintro r w1 ⟨sv, rfl, hRF, ⟨A, c, rfl⟩, m1⟩
          have hAR := (res_arr w).mod m1 (by simp)
          have r0 := hAR.cell 0 (by omega)
          have r1 := hAR.cell 1 (by omega)
          have g0 := hAR.free 0
          have g1 := hAR.free 1
          simp only [if_true, if_false, Nat.reduceEqDiff] at r0 r1
          have FIN := Lib.hid (And.intro hRF m1)
          clear hRF m1 hAR
          go_wp2
          (try simp only [Exit.inBlock, Exit.then])
          refine bodyPost_ret (v := .agg #[.slice A 1 c, .int .i64 bs.length]) ?_ rfl ?_
          · rw [results_cell1 rfl]
            go_simp
          · rw [hf.out.1, hf.out.2]
            exact RWrPost.badS HW.out FIN.out.1 (fun x hx => by have := HSZ.out; simp at hx; omega) (M0.out.trans FIN.out.2) _ _
        · exact absurd ⟨hn0, .inl rfl⟩ hfit'
    · have hw' : wideB k = false := by simpa using hw
      rw [hw'] at WI
      clear hfit hw hw'
      go_enter Tryd.func67, Tryd.ntmps67
      go_wp2_with fail
      refine WI.out.mono ?_
      rintro r w1 ⟨rfl, rfl⟩
      go_wp2_with fail
      refine ONE.out.mono ?_
      rintro r w1 ⟨sv, rfl, hRF, ⟨A, c, rfl⟩, m1⟩
      have hAR := (res_arr w).mod m1 (by simp)
      have r0 := hAR.cell 0 (by omega)
      have r1 := hAR.cell 1 (by omega)
      have g0 := hAR.free 0
      have g1 := hAR.free 1
      simp only [if_true, if_false, Nat.reduceEqDiff] at r0 r1
      have FIN := Lib.hid (And.intro hRF m1)
      clear hRF m1 hAR
      go_wp2
      (try simp only [Exit.inBlock, Exit.then])
      refine bodyPost_ret (v := .agg #[.slice A 1 c, .int .i64 bs.length]) ?_ rfl ?_
      · rw [results_cell1 rfl]
        go_simp
      · rw [hf.out.1, hf.out.2]
        exact RWrPost.badS HW.out FIN.out.1 (fun x hx => by have := HSZ.out; simp at hx; omega) (M0.out.trans FIN.out.2) _ _
  · have hf := Lib.hid (fit_yes hfit)
    have hfit' : (k = 1 ∨ k = 2 ∨ k = 4 ∨ k = 8) ∧ 0 ≤ n ∧ (k = 8 ∨ n < 2 ^ (8 * k.toNat)) := by simpa [fitB, wideB] using hfit
    obtain ⟨hk4, hn0, hnk⟩ := hfit'
    have hw : wideB k = true := by simpa [wideB] using hk4
    rw [hw] at WI
    obtain ⟨nn, rfl⟩ : ∃ nn : Nat, n = (nn : Int) := ⟨n.toNat, by omega⟩
    have hn9 : nn < 9223372036854775808 := by omega
    have t1 : decide ((nn : Int) < 0) = false := by simp
    clear hfit hw
    rcases hk4 with rfl | rfl | rfl | rfl
    · have hm : (nn : Int) < 256 := by simp at hnk; omega
      have t2 : decide ((256 : Int) ≤ (nn : Int)) = false := by simp; omega
      clear hnk
      go_enter Tryd.func67, Tryd.ntmps67
      go_wp2_with fail
      refine WI.out.mono ?_
      rintro r w1 ⟨rfl, rfl⟩
      obtain ⟨w0, hw0⟩ : ∃ w0, w0 = w.alloc (.cells #[.slice none 0 0, .int .i64 0] 130) := ⟨_, rfl⟩
      rw [← hw0] at HSZ HW1 M0 c0 ⊢
      have RA : Hid (Arr w0 w.heap.size 130 2 (fun i => if i = 0 then .slice none 0 0 else .int .i64 0)) := Lib.hid (by rw [hw0]; exact res_arr w)
      clear hw0 WI ONE c0
      go_wp2
      go_loopw [1, 7] (fun x i wr => ∃ (j : Nat) (F' : List Nat), j ≤ 1 ∧ i = .int .i64 j ∧ x = .int .i64 ((nn / 256 ^ j : Nat) : Int) ∧ Wtr wr 142 b (bs ++ leB nn j) F' ∧ Grow F F' w0 wr) (fun _ i _ => 1 - (intOf i).toNat)
      case atStart => exact ⟨0, F, Nat.zero_le _, rfl, by simp, by rw [leB_zero, List.append_nil]; exact HW1.out, Grow.refl _ _⟩
      case round =>
        obtain ⟨j, F', hj, rfl, rfl, hR, hG⟩ := hrel
        by_cases hlt : j < 1
        · have i2 : (j : Int) < 1 := by omega
          obtain ⟨v, hA, ho, hg⟩ := hR.ex
          have hlen : (bs ++ leB nn j).length ≤ 600000 := by simp [leB_length]; omega
          have HG := Lib.hid hG
          have HR := Lib.hid hR
          obtain ⟨nj, hnj⟩ : ∃ nj : Nat, nj = nn / 256 ^ j := ⟨_, rfl⟩
          have hnj1 : nj < 9223372036854775808 := by rw [hnj]; exact Nat.lt_of_le_of_lt (Nat.div_le_self _ _) hn9
          have hsuc : nn / 256 ^ (j + 1) = nj / 256 := by rw [hnj, Nat.pow_succ, Nat.div_div_eq_div_mul]
          have hbl : bs ++ leB nn (j + 1) = (bs ++ leB nn j) ++ [UInt8.ofNat (nj % 256)] := by rw [leB_succ, hnj, List.append_assoc]
          have HS := Lib.hid hsuc
          have HBL := Lib.hid hbl
          rw [← hnj]
          obtain ⟨bj, hbj⟩ : ∃ bj, bj = bs ++ leB nn j := ⟨_, rfl⟩
          have HBJ := Lib.hid hbj
          rw [← hbj] at ho hlen
          obtain ⟨w2, hw2⟩ : ∃ w2, w2 = wr.alloc (.cells #[.int .u8 ((nj : Int) % 256)] 5) := ⟨_, rfl⟩
          have m2 : Mod [] wr w2 := by rw [hw2]; exact (Mod.refl _ _).alloc _
          have cn : w2.cell? ⟨wr.heap.size, 0, none⟩ = some (.int .u8 ((nj : Int) % 256)) := by rw [hw2]; exact new_cell1 wr _ _ _ rfl
          have hA2 := hA.mod m2 (by simp)
          have ho2 := own_mod ho m2 (by simp)
          have c0 := hA.cell 0 (by omega)
          have hzz := m2.size
          have HA := Lib.hid hA
          have HA2 := Lib.hid hA2
          have HW2 := Lib.hid hw2
          have M2 := Lib.hid m2
          have HGG := Lib.hid hg
          clear hG hR hnj hsuc hbl hbj hw2 m2 hA hA2 ho hg
          go_wp2_with (
            at_builtin
            rw [← HW2.out]
            refine app1 0 140 5 (.int .u8 0) 1 1 Tryd.underlying140 u8_info rfl (by omega) (by omega) rfl _ _ rfl v _ _ rfl ho2 wr.heap.size [.int .u8 ((nj : Int) % 256)] rfl rfl (news1 cn) (by simp [Value.oneCell']) (by omega) (by omega) ?_
            intro ga cap w3 ho3 m3 hg3 hb3
            have hbn : b ∉ v.ownBlock.toList := fun hx => (HGG.out b (by simpa using hx)).2 rfl
            have hA3 := HA2.out.mod m3 hbn
            have c3 := hA3.cell 0 (by omega)
            have f3 := hA3.free 0
            have ST := Lib.hid ((HR.out.mod0 M2.out).stored HA2.out HGG.out m3 ho3 (bs' := bj ++ [UInt8.ofNat (nj % 256)]) (by simp) (by simp [u8_ofNat]) (fun g e => by
              simp only [Value.ownBlock, Option.map_some, Option.some.injEq] at e
              rcases hg3 with h1 | h1
              · left; rw [h1]; simp_all
              · right; omega))
            clear hA3 ho3 m3 ho2 cn hbn)
          go_roundw
          case rel =>
            obtain ⟨F2, hW2, hG2⟩ := ST.out
            exact ⟨j + 1, F2, by omega, by go_num, by rw [HS.out]; simp, by rw [HBL.out, ← HBJ.out]; exact hW2, HG.out.trans ((Grow.of_mod M2.out).trans hG2)⟩
          case measure => simp [intOf]; omega
        · have i2 : ¬ (j : Int) < 1 := by omega
          obtain rfl : j = 1 := by omega
          have hAR := RA.out.mod hG.mod (fun hx => by have := HW.out.lt _ hx; omega)
          have r0 := hAR.cell 0 (by omega)
          have r1 := hAR.cell 1 (by omega)
          have g0 := hAR.free 0
          have g1 := hAR.free 1
          simp only [if_true, if_false, Nat.reduceEqDiff] at r0 r1
          have FIN := Lib.hid (And.intro hR hG)
          clear hR hG hAR
          go_wp2
          (try simp only [Exit.inBlock, Exit.then])
          refine bodyPost_ret (v := .agg #[.slice none 0 0, .int .i64 0]) ?_ rfl ?_
          · rw [results_cell1 rfl]
            go_simp
          · rw [hf.out.1, hf.out.2]
            exact RWrPost.goodS HW.out.lt M0.out HSZ.out.symm FIN.out.1 FIN.out.2 _ _
    · have hm : (nn : Int) < 65536 := by simp at hnk; omega
      have t2 : decide ((65536 : Int) ≤ (nn : Int)) = false := by simp; omega
      clear hnk
      go_enter Tryd.func67, Tryd.ntmps67
      go_wp2_with fail
      refine WI.out.mono ?_
      rintro r w1 ⟨rfl, rfl⟩
      obtain ⟨w0, hw0⟩ : ∃ w0, w0 = w.alloc (.cells #[.slice none 0 0, .int .i64 0] 130) := ⟨_, rfl⟩
      rw [← hw0] at HSZ HW1 M0 c0 ⊢
      have RA : Hid (Arr w0 w.heap.size 130 2 (fun i => if i = 0 then .slice none 0 0 else .int .i64 0)) := Lib.hid (by rw [hw0]; exact res_arr w)
      clear hw0 WI ONE c0
      go_wp2
      go_loopw [1, 7] (fun x i wr => ∃ (j : Nat) (F' : List Nat), j ≤ 2 ∧ i = .int .i64 j ∧ x = .int .i64 ((nn / 256 ^ j : Nat) : Int) ∧ Wtr wr 142 b (bs ++ leB nn j) F' ∧ Grow F F' w0 wr) (fun _ i _ => 2 - (intOf i).toNat)
      case atStart => exact ⟨0, F, Nat.zero_le _, rfl, by simp, by rw [leB_zero, List.append_nil]; exact HW1.out, Grow.refl _ _⟩
      case round =>
        obtain ⟨j, F', hj, rfl, rfl, hR, hG⟩ := hrel
        by_cases hlt : j < 2
        · have i2 : (j : Int) < 2 := by omega
          obtain ⟨v, hA, ho, hg⟩ := hR.ex
          have hlen : (bs ++ leB nn j).length ≤ 600000 := by simp [leB_length]; omega
          have HG := Lib.hid hG
          have HR := Lib.hid hR
          obtain ⟨nj, hnj⟩ : ∃ nj : Nat, nj = nn / 256 ^ j := ⟨_, rfl⟩
          have hnj1 : nj < 9223372036854775808 := by rw [hnj]; exact Nat.lt_of_le_of_lt (Nat.div_le_self _ _) hn9
          have hsuc : nn / 256 ^ (j + 1) = nj / 256 := by rw [hnj, Nat.pow_succ, Nat.div_div_eq_div_mul]
          have hbl : bs ++ leB nn (j + 1) = (bs ++ leB nn j) ++ [UInt8.ofNat (nj % 256)] := by rw [leB_succ, hnj, List.append_assoc]
          have HS := Lib.hid hsuc
          have HBL := Lib.hid hbl
          rw [← hnj]
          obtain ⟨bj, hbj⟩ : ∃ bj, bj = bs ++ leB nn j := ⟨_, rfl⟩
          have HBJ := Lib.hid hbj
          rw [← hbj] at ho hlen
          obtain ⟨w2, hw2⟩ : ∃ w2, w2 = wr.alloc (.cells #[.int .u8 ((nj : Int) % 256)] 5) := ⟨_, rfl⟩
          have m2 : Mod [] wr w2 := by rw [hw2]; exact (Mod.refl _ _).alloc _
          have cn : w2.cell? ⟨wr.heap.size, 0, none⟩ = some (.int .u8 ((nj : Int) % 256)) := by rw [hw2]; exact new_cell1 wr _ _ _ rfl
          have hA2 := hA.mod m2 (by simp)
          have ho2 := own_mod ho m2 (by simp)
          have c0 := hA.cell 0 (by omega)
          have hzz := m2.size
          have HA := Lib.hid hA
          have HA2 := Lib.hid hA2
          have HW2 := Lib.hid hw2
          have M2 := Lib.hid m2
          have HGG := Lib.hid hg
          clear hG hR hnj hsuc hbl hbj hw2 m2 hA hA2 ho hg
          go_wp2_with (
            at_builtin
            rw [← HW2.out]
            refine app1 0 140 5 (.int .u8 0) 1 1 Tryd.underlying140 u8_info rfl (by omega) (by omega) rfl _ _ rfl v _ _ rfl ho2 wr.heap.size [.int .u8 ((nj : Int) % 256)] rfl rfl (news1 cn) (by simp [Value.oneCell']) (by omega) (by omega) ?_
            intro ga cap w3 ho3 m3 hg3 hb3
            have hbn : b ∉ v.ownBlock.toList := fun hx => (HGG.out b (by simpa using hx)).2 rfl
            have hA3 := HA2.out.mod m3 hbn
            have c3 := hA3.cell 0 (by omega)
            have f3 := hA3.free 0
            have ST := Lib.hid ((HR.out.mod0 M2.out).stored HA2.out HGG.out m3 ho3 (bs' := bj ++ [UInt8.ofNat (nj % 256)]) (by simp) (by simp [u8_ofNat]) (fun g e => by
              simp only [Value.ownBlock, Option.map_some, Option.some.injEq] at e
              rcases hg3 with h1 | h1
              · left; rw [h1]; simp_all
              · right; omega))
            clear hA3 ho3 m3 ho2 cn hbn)
          go_roundw
          case rel =>
            obtain ⟨F2, hW2, hG2⟩ := ST.out
            exact ⟨j + 1, F2, by omega, by go_num, by rw [HS.out]; simp, by rw [HBL.out, ← HBJ.out]; exact hW2, HG.out.trans ((Grow.of_mod M2.out).trans hG2)⟩
          case measure => simp [intOf]; omega
        · have i2 : ¬ (j : Int) < 2 := by omega
          obtain rfl : j = 2 := by omega
          have hAR := RA.out.mod hG.mod (fun hx => by have := HW.out.lt _ hx; omega)
          have r0 := hAR.cell 0 (by omega)
          have r1 := hAR.cell 1 (by omega)
          have g0 := hAR.free 0
          have g1 := hAR.free 1
          simp only [if_true, if_false, Nat.reduceEqDiff] at r0 r1
          have FIN := Lib.hid (And.intro hR hG)
          clear hR hG hAR
          go_wp2
          (try simp only [Exit.inBlock, Exit.then])
          refine bodyPost_ret (v := .agg #[.slice none 0 0, .int .i64 0]) ?_ rfl ?_
          · rw [results_cell1 rfl]
            go_simp
          · rw [hf.out.1, hf.out.2]
            exact RWrPost.goodS HW.out.lt M0.out HSZ.out.symm FIN.out.1 FIN.out.2 _ _
    · have hm : (nn : Int) < 4294967296 := by simp at hnk; omega
      have t2 : decide ((4294967296 : Int) ≤ (nn : Int)) = false := by simp; omega
      clear hnk
      go_enter Tryd.func67, Tryd.ntmps67
      go_wp2_with fail
      refine WI.out.mono ?_
      rintro r w1 ⟨rfl, rfl⟩
      obtain ⟨w0, hw0⟩ : ∃ w0, w0 = w.alloc (.cells #[.slice none 0 0, .int .i64 0] 130) := ⟨_, rfl⟩
      rw [← hw0] at HSZ HW1 M0 c0 ⊢
      have RA : Hid (Arr w0 w.heap.size 130 2 (fun i => if i = 0 then .slice none 0 0 else .int .i64 0)) := Lib.hid (by rw [hw0]; exact res_arr w)
      clear hw0 WI ONE c0
      go_wp2
      go_loopw [1, 7] (fun x i wr => ∃ (j : Nat) (F' : List Nat), j ≤ 4 ∧ i = .int .i64 j ∧ x = .int .i64 ((nn / 256 ^ j : Nat) : Int) ∧ Wtr wr 142 b (bs ++ leB nn j) F' ∧ Grow F F' w0 wr) (fun _ i _ => 4 - (intOf i).toNat)
      case atStart => exact ⟨0, F, Nat.zero_le _, rfl, by simp, by rw [leB_zero, List.append_nil]; exact HW1.out, Grow.refl _ _⟩
      case round =>
        obtain ⟨j, F', hj, rfl, rfl, hR, hG⟩ := hrel
        by_cases hlt : j < 4
        · have i2 : (j : Int) < 4 := by omega
          obtain ⟨v, hA, ho, hg⟩ := hR.ex
          have hlen : (bs ++ leB nn j).length ≤ 600000 := by simp [leB_length]; omega
          have HG := Lib.hid hG
          have HR := Lib.hid hR
          obtain ⟨nj, hnj⟩ : ∃ nj : Nat, nj = nn / 256 ^ j := ⟨_, rfl⟩
          have hnj1 : nj < 9223372036854775808 := by rw [hnj]; exact Nat.lt_of_le_of_lt (Nat.div_le_self _ _) hn9
          have hsuc : nn / 256 ^ (j + 1) = nj / 256 := by rw [hnj, Nat.pow_succ, Nat.div_div_eq_div_mul]
          have hbl : bs ++ leB nn (j + 1) = (bs ++ leB nn j) ++ [UInt8.ofNat (nj % 256)] := by rw [leB_succ, hnj, List.append_assoc]
          have HS := Lib.hid hsuc
          have HBL := Lib.hid hbl
          rw [← hnj]
          obtain ⟨bj, hbj⟩ : ∃ bj, bj = bs ++ leB nn j := ⟨_, rfl⟩
          have HBJ := Lib.hid hbj
          rw [← hbj] at ho hlen
          obtain ⟨w2, hw2⟩ : ∃ w2, w2 = wr.alloc (.cells #[.int .u8 ((nj : Int) % 256)] 5) := ⟨_, rfl⟩
          have m2 : Mod [] wr w2 := by rw [hw2]; exact (Mod.refl _ _).alloc _
          have cn : w2.cell? ⟨wr.heap.size, 0, none⟩ = some (.int .u8 ((nj : Int) % 256)) := by rw [hw2]; exact new_cell1 wr _ _ _ rfl
          have hA2 := hA.mod m2 (by simp)
          have ho2 := own_mod ho m2 (by simp)
          have c0 := hA.cell 0 (by omega)
          have hzz := m2.size
          have HA := Lib.hid hA
          have HA2 := Lib.hid hA2
          have HW2 := Lib.hid hw2
          have M2 := Lib.hid m2
          have HGG := Lib.hid hg
          clear hG hR hnj hsuc hbl hbj hw2 m2 hA hA2 ho hg
          go_wp2_with (
            at_builtin
            rw [← HW2.out]
            refine app1 0 140 5 (.int .u8 0) 1 1 Tryd.underlying140 u8_info rfl (by omega) (by omega) rfl _ _ rfl v _ _ rfl ho2 wr.heap.size [.int .u8 ((nj : Int) % 256)] rfl rfl (news1 cn) (by simp [Value.oneCell']) (by omega) (by omega) ?_
            intro ga cap w3 ho3 m3 hg3 hb3
            have hbn : b ∉ v.ownBlock.toList := fun hx => (HGG.out b (by simpa using hx)).2 rfl
            have hA3 := HA2.out.mod m3 hbn
            have c3 := hA3.cell 0 (by omega)
            have f3 := hA3.free 0
            have ST := Lib.hid ((HR.out.mod0 M2.out).stored HA2.out HGG.out m3 ho3 (bs' := bj ++ [UInt8.ofNat (nj % 256)]) (by simp) (by simp [u8_ofNat]) (fun g e => by
              simp only [Value.ownBlock, Option.map_some, Option.some.injEq] at e
              rcases hg3 with h1 | h1
              · left; rw [h1]; simp_all
              · right; omega))
            clear hA3 ho3 m3 ho2 cn hbn)
          go_roundw
          case rel =>
            obtain ⟨F2, hW2, hG2⟩ := ST.out
            exact ⟨j + 1, F2, by omega, by go_num, by rw [HS.out]; simp, by rw [HBL.out, ← HBJ.out]; exact hW2, HG.out.trans ((Grow.of_mod M2.out).trans hG2)⟩
          case measure => simp [intOf]; omega
        · have i2 : ¬ (j : Int) < 4 := by omega
          obtain rfl : j = 4 := by omega
          have hAR := RA.out.mod hG.mod (fun hx => by have := HW.out.lt _ hx; omega)
          have r0 := hAR.cell 0 (by omega)
          have r1 := hAR.cell 1 (by omega)
          have g0 := hAR.free 0
          have g1 := hAR.free 1
          simp only [if_true, if_false, Nat.reduceEqDiff] at r0 r1
          have FIN := Lib.hid (And.intro hR hG)
          clear hR hG hAR
          go_wp2
          (try simp only [Exit.inBlock, Exit.then])
          refine bodyPost_ret (v := .agg #[.slice none 0 0, .int .i64 0]) ?_ rfl ?_
          · rw [results_cell1 rfl]
            go_simp
          · rw [hf.out.1, hf.out.2]
            exact RWrPost.goodS HW.out.lt M0.out HSZ.out.symm FIN.out.1 FIN.out.2 _ _
    · have t2 : True := trivial
      clear hnk
      go_enter Tryd.func67, Tryd.ntmps67
      go_wp2_with fail
      refine WI.out.mono ?_
      rintro r w1 ⟨rfl, rfl⟩
      obtain ⟨w0, hw0⟩ : ∃ w0, w0 = w.alloc (.cells #[.slice none 0 0, .int .i64 0] 130) := ⟨_, rfl⟩
      rw [← hw0] at HSZ HW1 M0 c0 ⊢
      have RA : Hid (Arr w0 w.heap.size 130 2 (fun i => if i = 0 then .slice none 0 0 else .int .i64 0)) := Lib.hid (by rw [hw0]; exact res_arr w)
      clear hw0 WI ONE c0
      go_wp2
      go_loopw [1, 7] (fun x i wr => ∃ (j : Nat) (F' : List Nat), j ≤ 8 ∧ i = .int .i64 j ∧ x = .int .i64 ((nn / 256 ^ j : Nat) : Int) ∧ Wtr wr 142 b (bs ++ leB nn j) F' ∧ Grow F F' w0 wr) (fun _ i _ => 8 - (intOf i).toNat)
      case atStart => exact ⟨0, F, Nat.zero_le _, rfl, by simp, by rw [leB_zero, List.append_nil]; exact HW1.out, Grow.refl _ _⟩
      case round =>
        obtain ⟨j, F', hj, rfl, rfl, hR, hG⟩ := hrel
        by_cases hlt : j < 8
        · have i2 : (j : Int) < 8 := by omega
          obtain ⟨v, hA, ho, hg⟩ := hR.ex
          have hlen : (bs ++ leB nn j).length ≤ 600000 := by simp [leB_length]; omega
          have HG := Lib.hid hG
          have HR := Lib.hid hR
          obtain ⟨nj, hnj⟩ : ∃ nj : Nat, nj = nn / 256 ^ j := ⟨_, rfl⟩
          have hnj1 : nj < 9223372036854775808 := by rw [hnj]; exact Nat.lt_of_le_of_lt (Nat.div_le_self _ _) hn9
          have hsuc : nn / 256 ^ (j + 1) = nj / 256 := by rw [hnj, Nat.pow_succ, Nat.div_div_eq_div_mul]
          have hbl : bs ++ leB nn (j + 1) = (bs ++ leB nn j) ++ [UInt8.ofNat (nj % 256)] := by rw [leB_succ, hnj, List.append_assoc]
          have HS := Lib.hid hsuc
          have HBL := Lib.hid hbl
          rw [← hnj]
          obtain ⟨bj, hbj⟩ : ∃ bj, bj = bs ++ leB nn j := ⟨_, rfl⟩
          have HBJ := Lib.hid hbj
          rw [← hbj] at ho hlen
          obtain ⟨w2, hw2⟩ : ∃ w2, w2 = wr.alloc (.cells #[.int .u8 ((nj : Int) % 256)] 5) := ⟨_, rfl⟩
          have m2 : Mod [] wr w2 := by rw [hw2]; exact (Mod.refl _ _).alloc _
          have cn : w2.cell? ⟨wr.heap.size, 0, none⟩ = some (.int .u8 ((nj : Int) % 256)) := by rw [hw2]; exact new_cell1 wr _ _ _ rfl
          have hA2 := hA.mod m2 (by simp)
          have ho2 := own_mod ho m2 (by simp)
          have c0 := hA.cell 0 (by omega)
          have hzz := m2.size
          have HA := Lib.hid hA
          have HA2 := Lib.hid hA2
          have HW2 := Lib.hid hw2
          have M2 := Lib.hid m2
          have HGG := Lib.hid hg
          clear hG hR hnj hsuc hbl hbj hw2 m2 hA hA2 ho hg
          go_wp2_with (
            at_builtin
            rw [← HW2.out]
            refine app1 0 140 5 (.int .u8 0) 1 1 Tryd.underlying140 u8_info rfl (by omega) (by omega) rfl _ _ rfl v _ _ rfl ho2 wr.heap.size [.int .u8 ((nj : Int) % 256)] rfl rfl (news1 cn) (by simp [Value.oneCell']) (by omega) (by omega) ?_
            intro ga cap w3 ho3 m3 hg3 hb3
            have hbn : b ∉ v.ownBlock.toList := fun hx => (HGG.out b (by simpa using hx)).2 rfl
            have hA3 := HA2.out.mod m3 hbn
            have c3 := hA3.cell 0 (by omega)
            have f3 := hA3.free 0
            have ST := Lib.hid ((HR.out.mod0 M2.out).stored HA2.out HGG.out m3 ho3 (bs' := bj ++ [UInt8.ofNat (nj % 256)]) (by simp) (by simp [u8_ofNat]) (fun g e => by
              simp only [Value.ownBlock, Option.map_some, Option.some.injEq] at e
              rcases hg3 with h1 | h1
              · left; rw [h1]; simp_all
              · right; omega))
            clear hA3 ho3 m3 ho2 cn hbn)
          go_roundw
          case rel =>
            obtain ⟨F2, hW2, hG2⟩ := ST.out
            exact ⟨j + 1, F2, by omega, by go_num, by rw [HS.out]; simp, by rw [HBL.out, ← HBJ.out]; exact hW2, HG.out.trans ((Grow.of_mod M2.out).trans hG2)⟩
          case measure => simp [intOf]; omega
        · have i2 : ¬ (j : Int) < 8 := by omega
          obtain rfl : j = 8 := by omega
          have hAR := RA.out.mod hG.mod (fun hx => by have := HW.out.lt _ hx; omega)
          have r0 := hAR.cell 0 (by omega)
          have r1 := hAR.cell 1 (by omega)
          have g0 := hAR.free 0
          have g1 := hAR.free 1
          simp only [if_true, if_false, Nat.reduceEqDiff] at r0 r1
          have FIN := Lib.hid (And.intro hR hG)
          clear hR hG hAR
          go_wp2
          (try simp only [Exit.inBlock, Exit.then])
          refine bodyPost_ret (v := .agg #[.slice none 0 0, .int .i64 0]) ?_ rfl ?_
          · rw [results_cell1 rfl]
            go_simp
          · rw [hf.out.1, hf.out.2]
            exact RWrPost.goodS HW.out.lt M0.out HSZ.out.symm FIN.out.1 FIN.out.2 _ _
theorem rwbytes_calls (w : World) (b : Nat) (bs : List UInt8) (F : List Nat) (hW : Wtr w 142 b bs F) :
    Calls Tryd.prog 68 #[.pointer (some ⟨b, 0, none⟩)] w fun r w' => r = .returned (.string ⟨bs.toArray⟩) ∧ w = w' := by
  obtain ⟨v, hA, ho, _⟩ := hW.ex
  have c0 := hA.cell 0 (by omega)
  have cv := conv_bs w v bs ho
  clear hW hA ho
  go_enter Tryd.func68, Tryd.ntmps68
  go_wp2
  go_ret
  exact ⟨rfl, rfl⟩
theorem RWrPost.to {w w' : World} {T b : Nat} {F : List Nat} {l : List Int} {bs : List UInt8} {r : Ending} (h : RWrPost w T b F l bs r w') : RWrPost w T b F l bs r w' := h
theorem rcode_calls (w : World) (v : Value) (l : List Int) (E : List Nat) (hR : RF w v l E) (hl : l.length ≤ 1000) :
    Calls Tryd.prog 62 #[v] w fun r w' => r = .returned (.int .i64 (l.headD 0)) ∧ Mod [] w w' := by
  obtain ⟨sv, a, rfl, ho, _⟩ := hR
  have m : ∀ A n c, Mod [] w (w.alloc (.cells #[.slice A n c, .int .i64 a] 130)) := fun _ _ _ => (Mod.refl _ _).alloc _
  have M := Lib.hid m
  cases l with
  | nil =>
    obtain ⟨A, cap, rfl, _⟩ := (own_slA ho).ex
    clear ho m
    simp only [List.length_nil]
    go_enter Tryd.func62, Tryd.ntmps62
    go_wp2
    go_ret
    exact ⟨rfl, M.out _ _ _⟩
  | cons x l' =>
    obtain ⟨g, cap, rfl, _, hcap, hcm, hA⟩ := own_arr ho (by simp)
    have c0 := (hA.alloc (.cells #[.slice (some ⟨g, 0, none⟩) (l'.length + 1) cap, .int .i64 a] 130)).cell 0 (by simp)
    have hx : (ints (x :: l')).getD 0 undef = .int .i64 x := rfl
    rw [hx] at c0
    have hn : ((l'.length : Int) + 1 == 0) = false := by simp; omega
    have hn0 : (0 : Int) < (l'.length : Int) + 1 := by omega
    have hn1 : 0 < l'.length + 1 := by omega
    have hc1 : cap ≤ 9223372036854775807 := by unfold maxLen at hcm; exact hcm
    simp only [List.length_cons] at hl hcap
    clear ho hA hx hcm m
    simp only [List.length_cons]
    go_enter Tryd.func62, Tryd.ntmps62
    go_wp2
    go_ret
    exact ⟨rfl, M.out _ _ _⟩
theorem ints_get {l : List Int} {k : Nat} (h : k < l.length) : (ints l).getD (k * 1 + 0) undef = .int .i64 (l.getD k 0) := by
  simp [ints, List.getD_eq_getElem?_getD, List.getElem?_eq_getElem h]
def rdF (s : ByteArray) (a : Nat) (i : Nat) : Value := if i = 0 then .string s else .int .i64 a
/-- A reader (of type T) at b: its bytes s, and where it is. -/
def Rdr (w : World) (T b : Nat) (s : ByteArray) (a : Nat) : Prop := Arr w b T 2 (rdF s a)
theorem Rdr.mod {S : List Nat} {w w' : World} {T b : Nat} {s : ByteArray} {a : Nat} (h : Rdr w T b s a) (m : Mod S w w') (hb : b ∉ S) : Rdr w' T b s a := Arr.mod h m hb
theorem Rdr.mod0 {w w' : World} {T b : Nat} {s : ByteArray} {a : Nat} (h : Rdr w T b s a) (m : Mod [] w w') : Rdr w' T b s a := Arr.mod h m (by simp)
theorem Rdr.c0 {w : World} {T b : Nat} {s : ByteArray} {a : Nat} (h : Rdr w T b s a) : w.cell? ⟨b, 0, none⟩ = some (.string s) := Arr.cell h 0 (by omega)
theorem Rdr.c1 {w : World} {T b : Nat} {s : ByteArray} {a : Nat} (h : Rdr w T b s a) : w.cell? ⟨b, 1, none⟩ = some (.int .i64 a) := Arr.cell h 1 (by omega)
theorem Rdr.to {w : World} {T b : Nat} {s : ByteArray} {a : Nat} (h : Rdr w T b s a) (c : Nat) : Rdr (w.setCell ⟨b, 1, none⟩ (.int .i64 c)) T b s c :=
  (Arr.set h 1 (.int .i64 c)).congr fun i hi => by
    match i, hi with
    | 0, _ => simp [rdF]
    | 1, _ => simp [rdF]
theorem Rdr.new (w : World) (T : Nat) (s : ByteArray) : Rdr (w.alloc (.cells #[.string s, .int .i64 0] T)) T w.heap.size s 0 :=
  Arr.new' w _ _ 2 _ rfl (fun i hi => by
    match i, hi with
    | 0, _ => rfl
    | 1, _ => rfl)
theorem wide_cases {k : Int} (h : wideB k = true) : k = 1 ∨ k = 2 ∨ k = 4 ∨ k = 8 := by simpa [wideB] using h
theorem pow_cases (k : Nat) (h : (k : Int) = 1 ∨ (k : Int) = 2 ∨ (k : Int) = 4 ∨ (k : Int) = 8) : 256 ^ k ≤ 18446744073709551616 := by
  rcases h with h | h | h | h
  · obtain rfl : k = 1 := by omega
    decide
  · obtain rfl : k = 2 := by omega
    decide
  · obtain rfl : k = 4 := by omega
    decide
  · obtain rfl : k = 8 := by omega
    decide

/-- What a look at a number leaves. -/
def PeekPost (w : World) (s : ByteArray) (a : Nat) (k : Int) (r : Ending) (w' : World) : Prop :=
  ∃ v E, r = .returned (.tuple #[.int .i64 (rdN s a k), v]) ∧ Errs w' v (rdL s a k) E ∧ (∀ x, x ∈ E → w.heap.size ≤ x) ∧ Mod [] w w'
theorem pow256 (j : Nat) : 256 ^ j = 2 ^ (8 * j) := by rw [Nat.pow_mul]
/-- One byte more. -/
theorem or_step (f : Nat → Nat) (a j k : Nat) (hf : ∀ i, f i < 256) (hj : j < k) (hk : 256 ^ k ≤ 18446744073709551616) :
    bits .or .u64 ((leN f a j : Nat) : Int) (IntKind.u64.wrap (IntKind.u64.wrap ((f (a + j) : Nat) : Int) * 2 ^ (8 * j))) = ((leN f a (j + 1) : Nat) : Int) := by
  have h1 := hf (a + j)
  have h2 := leN_lt f a j hf
  have h3 : 256 ^ (j + 1) ≤ 256 ^ k := Nat.pow_le_pow_right (by omega) (by omega)
  have h4 : f (a + j) * 256 ^ j < 256 ^ (j + 1) := by
    rw [Nat.pow_succ, Nat.mul_comm]
    exact Nat.mul_lt_mul_of_pos_left h1 (Nat.pow_pos (by omega))
  have h5 : 256 ^ j < 18446744073709551616 := Nat.lt_of_lt_of_le (Nat.pow_lt_pow_right (by omega) (Nat.lt_succ_self j)) (by omega)
  have e1 : IntKind.u64.wrap ((f (a + j) : Nat) : Int) = ((f (a + j) : Nat) : Int) := by rw [IntKind.wrap_u64]; omega
  have e2 : ((f (a + j) : Nat) : Int) * 2 ^ (8 * j) = ((f (a + j) * 256 ^ j : Nat) : Int) := by
    rw [pow256]
    push_cast
    rfl
  have e3 : IntKind.u64.wrap ((f (a + j) * 256 ^ j : Nat) : Int) = ((f (a + j) * 256 ^ j : Nat) : Int) := by
    rw [IntKind.wrap_u64]
    generalize f (a + j) * 256 ^ j = z at *
    omega
  rw [e1, e2, e3, leN]
  have hl : leN f a j < 18446744073709551616 := by omega
  have hz : f (a + j) * 256 ^ j < 18446744073709551616 := by omega
  have e4 : leN f a j + f (a + j) * 256 ^ j = leN f a j ||| (f (a + j) * 256 ^ j) := by
    rw [pow256]
    exact (or_disj (by rw [← pow256]; exact h2)).symm
  rw [e4]
  generalize f (a + j) * 256 ^ j = z at *
  generalize leN f a j = y at *
  have hy' : y % 2 ^ IntKind.u64.bits = y := Nat.mod_eq_of_lt hl
  have hz' : z % 2 ^ IntKind.u64.bits = z := Nat.mod_eq_of_lt hz
  have hx : y ||| z < 18446744073709551616 := Nat.or_lt_two_pow (n := 64) hl hz
  simp only [bits, BitVec.ofInt_natCast, BitVec.toNat_or, BitVec.toNat_ofNat, hy', hz']
  rw [IntKind.wrap_u64]
  omega
set_option maxRecDepth 100000 in
set_option maxHeartbeats 4000000 in
theorem peek_calls (w : World) (b : Nat) (s : ByteArray) (a : Nat) (k : Int) (hR : Rdr w 159 b s a) (ha : a ≤ s.size) (hs : s.size ≤ 1000000) (k0 : -9223372036854775808 ≤ k) (k1 : k ≤ 9223372036854775807) :
    Calls Tryd.prog 76 #[.pointer (some ⟨b, 0, none⟩), .int .i64 k] w (PeekPost w s a k) := by
  have c0 := hR.c0
  have c1 := hR.c1
  have W0 := fun (w : World) (e : Int) (he : e ≠ 0) => Lib.hid (wrapE_calls w e a .nilIface [] [] he .nil)
  clear hR
  by_cases hw : wideB k = true
  rotate_left
  · have hw' : wideB k = false := by simpa using hw
    have e1 : rdN s a k = 0 := by simp [rdN, hw']
    have e2 : rdL s a k = [1] := by simp [rdL, hw']
    have E1 := Lib.hid e1
    have E2 := Lib.hid e2
    have ne1 : (k == 1) = false := by simp [wideB] at hw; simp; omega
    have ne2 : (k == 2) = false := by simp [wideB] at hw; simp; omega
    have ne4 : (k == 4) = false := by simp [wideB] at hw; simp; omega
    have ne8 : (k == 8) = false := by simp [wideB] at hw; simp; omega
    have nf1 : (k != 1) = true := by simp [wideB] at hw; simp; omega
    have nf2 : (k != 2) = true := by simp [wideB] at hw; simp; omega
    have nf4 : (k != 4) = true := by simp [wideB] at hw; simp; omega
    have nf8 : (k != 8) = true := by simp [wideB] at hw; simp; omega
    clear hw hw' e1 e2
    go_enter Tryd.func76, Tryd.ntmps76
    go_wp2_with fail
    refine (W0 _ 1 (by omega)).out.mono ?_
    rintro r w1 ⟨v, rfl, hE, m1⟩
    have F := Lib.hid (And.intro hE m1)
    clear hE m1 c0 c1
    go_wp2
    go_ret2
    exact ⟨v, _, by rw [E1.out]; rfl, by rw [E2.out]; exact F.out.1, fun x hx => by simp at hx; omega, F.out.2⟩
  have hk4 := wide_cases hw
  obtain ⟨kn, rfl⟩ : ∃ kn : Nat, k = (kn : Int) := ⟨k.toNat, by omega⟩
  have hpow := pow_cases kn hk4
  have hk8 : kn ≤ 8 := by omega
  have hk0 : 0 < kn := by omega
  have eN : rdN s a kn = if (s.size : Int) - a < kn then 0 else if 2 ^ 63 ≤ leN (byS s) a kn then 0 else ((leN (byS s) a kn : Nat) : Int) := by simp [rdN, hw]
  have eL : rdL s a kn = if (s.size : Int) - a < kn then [10] else if 2 ^ 63 ≤ leN (byS s) a kn then [11] else [] := by simp [rdL, hw]
  have EN := Lib.hid eN
  have EL := Lib.hid eL
  have HK4 := Lib.hid hk4
  clear hw eN eL hk4
  go_enter Tryd.func76, Tryd.ntmps76
  go_upto_region 1 with (fail)
  go_cut [8] (fun s8 wx => s8 = .bool false ∧ wx = w)
  case first =>
    rcases HK4.out with h | h | h | h
    · have nf1 : ((kn : Int) != 1) = false := by rw [h]; rfl
      clear h
      go_wp2
      go_meet
      exact ⟨rfl, rfl⟩
    · have nf1 : ((kn : Int) != 1) = true := by rw [h]; rfl
      have nf2 : ((kn : Int) != 2) = false := by rw [h]; rfl
      clear h
      go_wp2
      go_meet
      exact ⟨rfl, rfl⟩
    · have nf1 : ((kn : Int) != 1) = true := by rw [h]; rfl
      have nf2 : ((kn : Int) != 2) = true := by rw [h]; rfl
      have nf4 : ((kn : Int) != 4) = false := by rw [h]; rfl
      clear h
      go_wp2
      go_meet
      exact ⟨rfl, rfl⟩
    · have nf1 : ((kn : Int) != 1) = true := by rw [h]; rfl
      have nf2 : ((kn : Int) != 2) = true := by rw [h]; rfl
      have nf4 : ((kn : Int) != 4) = true := by rw [h]; rfl
      have nf8 : ((kn : Int) != 8) = false := by rw [h]; rfl
      clear h
      go_wp2
      go_meet
      exact ⟨rfl, rfl⟩
  case rest =>
  obtain ⟨h8, hwx⟩ := hcut
  subst h8
  subst hwx
  have ws : IntKind.i64.wrap ((s.size : Int) - (a : Int)) = (s.size : Int) - (a : Int) := IntWalk.i64_in _ (by omega)
  by_cases hsh : (s.size : Int) - a < kn
  · have t1 : decide ((s.size : Int) - (a : Int) < (kn : Int)) = true := by simpa using hsh
    have e1 := EN.out
    have e2 := EL.out
    rw [if_pos hsh] at e1 e2
    have E1 := Lib.hid e1
    have E2 := Lib.hid e2
    clear e1 e2 EN EL HK4 hsh
    go_wp2
    go_quiet (fail)
    go_wp2_with fail
    refine (W0 _ 10 (by omega)).out.mono ?_
    rintro r w1 ⟨v, rfl, hE, m1⟩
    have F := Lib.hid (And.intro hE m1)
    clear hE m1 c0 c1
    go_wp2
    go_ret2
    exact ⟨v, _, by rw [E1.out]; rfl, by rw [E2.out]; exact F.out.1, fun x hx => by simp at hx; simp [hx], (((Mod.refl [] _).drewN _).trans F.out.2)⟩
  · have t1 : decide ((s.size : Int) - (a : Int) < (kn : Int)) = false := by simpa using hsh
    have e1 := EN.out
    have e2 := EL.out
    rw [if_neg hsh] at e1 e2
    have E1 := Lib.hid e1
    have E2 := Lib.hid e2
    have hfit : a + kn ≤ s.size := by omega
    clear e1 e2 EN EL HK4 hsh
    go_wp2
    go_quiet (fail)
    go_wp2
    go_loopw [6, 47] (fun v i wr => ∃ j : Nat, j ≤ kn ∧ i = .int .i64 j ∧ v = .int .u64 ((leN (byS s) a j : Nat) : Int) ∧ Mod [] wc wr) (fun _ i _ => kn - (intOf i).toNat)
    case atStart => exact ⟨0, Nat.zero_le _, rfl, rfl, (Mod.refl _ _).drewN _⟩
    case round =>
      obtain ⟨j, hj, rfl, rfl, hM⟩ := hrel
      have d0 := hM.cell' c0 (by simp)
      have d1 := hM.cell' c1 (by simp)
      have HM := Lib.hid hM
      clear c0 c1 hM
      by_cases hlt : j < kn
      · have i2 : (j : Int) < (kn : Int) := by omega
        have hlen : a + j < s.size := by omega
        have w2 : IntKind.i64.wrap ((a : Int) + (j : Int)) = (a : Int) + (j : Int) := IntWalk.i64_in _ (by omega)
        have w3 : IntKind.i64.wrap (8 * (j : Int)) = 8 * (j : Int) := IntWalk.i64_in _ (by omega)
        have n1 : ((a : Int) + (j : Int)).toNat = a + j := by omega
        have n2 : (0 : Int) ≤ (a : Int) + (j : Int) := by omega
        have n3 : (a : Int) + (j : Int) < (s.size : Int) := by omega
        have n4 : (0 : Int) ≤ 8 * (j : Int) := by omega
        have n5 : (8 * (j : Int)).toNat = 8 * j := by omega
        have eb := byS_eq s (a + j) hlen
        have HOR := Lib.hid (or_step (byS s) a j kn (byS_lt s) hlt hpow)
        go_wp2
        go_quiet (fail)
        rw [HOR.out]
        clear ws w2 w3 n1 n5 eb
        go_wp2
        go_roundw
        case rel => exact ⟨j + 1, by omega, by go_num, rfl, HM.out.drewN _⟩
        case measure => simp [intOf]; omega
      · have i2 : ¬ (j : Int) < (kn : Int) := by omega
        obtain rfl : j = kn := by omega
        have hlt2 := Nat.lt_of_lt_of_le (leN_lt (byS s) a j (byS_lt s)) hpow
        obtain ⟨V, hV⟩ : ∃ V, V = leN (byS s) a j := ⟨_, rfl⟩
        rw [← hV] at hlt2 E1 E2 ⊢
        clear hV ws
        by_cases h63 : 2 ^ 63 ≤ V
        · have e1 := E1.out
          have e2 := E2.out
          rw [if_pos h63] at e1 e2
          have E1' := Lib.hid e1
          have E2' := Lib.hid e2
          have h63' : 9223372036854775808 ≤ V := by omega
          have q1 : (V : Int) / 9223372036854775808 = 1 := by omega
          clear e1 e2 E1 E2 h63
          go_wp2_with fail
          refine (W0 _ 11 (by omega)).out.mono ?_
          rintro r w1 ⟨v, rfl, hE, m1⟩
          have F := Lib.hid (And.intro hE m1)
          have hsz := HM.out.size
          clear hE m1 d0 d1
          go_wp2
          go_ret2
          exact ⟨v, _, by rw [E1'.out]; rfl, by rw [E2'.out]; exact F.out.1, fun x hx => by simp at hx; omega, HM.out.trans F.out.2⟩
        · have e1 := E1.out
          have e2 := E2.out
          rw [if_neg h63] at e1 e2
          have E1' := Lib.hid e1
          have E2' := Lib.hid e2
          have h63' : V < 9223372036854775808 := by omega
          have q1 : (V : Int) / 9223372036854775808 = 0 := by omega
          clear e1 e2 E1 E2 h63
          go_wp2
          go_ret2
          exact ⟨.nilIface, [], by rw [E1'.out]; rfl, by rw [E2'.out]; exact .nil, by simp, HM.out⟩
theorem Rdr.toI {w : World} {T b : Nat} {s : ByteArray} {a c : Nat} {z : Int} (h : Rdr w T b s a) (hz : z = (c : Int)) : Rdr (w.setCell ⟨b, 1, none⟩ (.int .i64 z)) T b s c := by
  subst hz
  exact h.to c
theorem newReader_calls (w : World) (s : ByteArray) :
    Calls Tryd.prog 56 #[.string s] w fun r w' => r = .returned (.pointer (some ⟨w.heap.size, 0, none⟩)) ∧ Rdr w' 159 w.heap.size s 0 ∧ Mod [] w w' := by
  have H := Rdr.new w 159 s
  have m : Mod [] w (w.alloc (.cells #[.string s, .int .i64 0] 159)) := (Mod.refl _ _).alloc _
  go_enter Tryd.func56, Tryd.ntmps56
  go_wp2
  go_ret
  exact ⟨rfl, H, m⟩
/-- What a reading call leaves: a value, an error of the chain l; where the reader is then. -/
def RdPost (w : World) (T b : Nat) (s : ByteArray) (x : Value) (l : List Int) (a' : Nat) (r : Ending) (w' : World) : Prop :=
  ∃ v E, r = .returned (.tuple #[x, v]) ∧ Errs w' v l E ∧ (∀ x, x ∈ E → w.heap.size ≤ x) ∧ Rdr w' T b s a' ∧ Mod [b] w w'
theorem rd_good {s : ByteArray} {a : Nat} {k : Int} (h : rdL s a k = []) : wideB k = true ∧ (a : Int) + k ≤ s.size ∧ rdA s a k = a + k.toNat ∧ 0 < k ∧ k ≤ 8 := by
  unfold rdL at h
  split at h
  · cases h
  · rename_i hw
    have hw' : wideB k = true := by simpa using hw
    have hk := wide_cases hw'
    split at h
    · cases h
    · rename_i hs
      refine ⟨hw', by omega, ?_, by omega, by omega⟩
      unfold rdA
      rw [if_pos]
      unfold rdL
      rw [if_neg hw, if_neg hs]
      exact h
set_option maxRecDepth 100000 in
set_option maxHeartbeats 2000000 in
theorem rnum_calls (w : World) (b : Nat) (s : ByteArray) (a : Nat) (k : Int) (hR : Rdr w 159 b s a) (ha : a ≤ s.size) (hs : s.size ≤ 1000000) (k0 : -9223372036854775808 ≤ k) (k1 : k ≤ 9223372036854775807) :
    Calls Tryd.prog 58 #[.pointer (some ⟨b, 0, none⟩), .int .i64 k] w (RdPost w 159 b s (.int .i64 (rdN s a k)) (rdL s a k) (rdA s a k)) := by
  have P := Lib.hid (peek_calls w b s a k hR ha hs k0 k1)
  have HR := Lib.hid hR
  clear hR
  obtain ⟨x, hx⟩ : ∃ x, x = rdN s a k := ⟨_, rfl⟩
  have HX := Lib.hid hx
  unfold PeekPost at P
  rw [← hx] at P ⊢
  clear hx
  by_cases hl : rdL s a k = []
  · obtain ⟨-, hfit, hA, hk0, hk8⟩ := rd_good hl
    obtain ⟨kn, rfl⟩ : ∃ kn : Nat, k = (kn : Int) := ⟨k.toNat, by omega⟩
    have HA := Lib.hid hA
    have HL := Lib.hid hl
    clear hA hl
    go_enter Tryd.func58, Tryd.ntmps58
    go_wp2_with fail
    refine P.out.mono ?_
    rintro r w1 ⟨v, E, rfl, hE, hx, m1⟩
    have hv : v = .nilIface := hE.isNil.1 HL.out
    subst hv
    have h1 := HR.out.mod0 m1
    have d1 := h1.c1
    have f1 := Arr.free h1 1
    have h2 := Lib.hid (h1.toI (c := a + kn) (z := (a : Int) + (kn : Int)) (by omega))
    have M := Lib.hid (m1.nil.setCell (S := [b]) (p := ⟨b, 1, none⟩) (.inl (by simp)) (.int .i64 ((a : Int) + (kn : Int))))
    have M1 := Lib.hid m1
    clear hE hx m1 h1
    go_wp2
    go_ret2
    refine ⟨.nilIface, [], rfl, by rw [HL.out]; exact .nil, by simp, by rw [HA.out]; exact h2.out, M.out⟩
  · have HL := Lib.hid hl
    have hA : rdA s a k = a := by unfold rdA; rw [if_neg hl]
    have HA := Lib.hid hA
    clear hA hl
    go_enter Tryd.func58, Tryd.ntmps58
    go_wp2_with fail
    refine P.out.mono ?_
    rintro r w1 ⟨v, E, rfl, hE, hx, m1⟩
    have hv : IfaceV v := hE.iface
    have hv2 : v ≠ .nilIface := fun e => HL.out (hE.isNil.2 e)
    have F := Lib.hid (show RdPost w 159 b s (.int .i64 x) (rdL s a k) (rdA s a k) (.returned (.tuple #[.int .i64 x, v])) w1 from ⟨v, E, rfl, hE, hx, by rw [HA.out]; exact HR.out.mod0 m1, m1.nil⟩)
    clear hE hx m1
    rcases hv with rfl | ⟨t, y, rfl⟩
    · exact absurd rfl hv2
    · clear hv2
      go_wp2
      go_ret2
      exact F.out
theorem rd2 (s : ByteArray) (a : Nat) : (((s.size : Int) - a < 2) ∧ rdL s a 2 = [10] ∧ rtL s a = [10, 10]) ∨ (¬ ((s.size : Int) - a < 2) ∧ rdL s a 2 = [] ∧ rdN s a 2 = (leN (byS s) a 2 : Nat) ∧ leN (byS s) a 2 < 65536) := by
  have h2 : leN (byS s) a 2 < 65536 := leN_lt (byS s) a 2 (byS_lt s)
  have hw : wideB 2 = true := by decide
  by_cases h : (s.size : Int) - a < 2
  · have e : rdL s a 2 = [10] := by simp [rdL, hw, h]
    exact .inl ⟨h, e, by simp [rtL, e]⟩
  · refine .inr ⟨h, ?_, ?_, h2⟩
    · unfold rdL
      rw [if_neg (by simp [hw]), if_neg h, if_neg (by simp; omega)]
    · unfold rdN
      rw [if_neg (by simp [hw]), if_neg h, if_neg (by simp; omega)]
      rfl
set_option maxRecDepth 100000 in
theorem rend_calls (w : World) (b : Nat) (s : ByteArray) (a : Nat) (hR : Rdr w 159 b s a) (ha : a ≤ s.size) (hs : s.size ≤ 1000000) :
    Calls Tryd.prog 59 #[.pointer (some ⟨b, 0, none⟩)] w fun r w' => ∃ v E, r = .returned v ∧ Errs w' v (endL s a) E ∧ (∀ x, x ∈ E → w.heap.size ≤ x) ∧ Mod [] w w' := by
  have c0 := hR.c0
  have c1 := hR.c1
  clear hR
  by_cases h : a < s.size
  · have e : endL s a = [11] := by simp [endL, h]
    rw [e]
    have i1 : (a : Int) < (s.size : Int) := by omega
    have t1 : decide (a < s.size) = true := by simpa using h
    clear e
    go_enter Tryd.func59, Tryd.ntmps59
    go_wp2
    go_quiet (fail)
    go_wp2_with fail
    refine (wrapE_calls _ 11 a .nilIface [] [] (by omega) .nil).mono ?_
    rintro r w2 ⟨v2, rfl, hE2, m2⟩
    have F := Lib.hid (And.intro hE2 m2)
    clear hE2 m2
    go_wp2
    go_ret
    exact ⟨v2, _, rfl, F.out.1, fun x hx => by simp at hx; omega, ((Mod.refl [] _).drewN _).trans F.out.2⟩
  · have e : endL s a = [] := by simp [endL, h]
    rw [e]
    have i1 : ¬ (a : Int) < (s.size : Int) := by omega
    have t1 : decide (a < s.size) = false := by simpa using h
    clear e
    go_enter Tryd.func59, Tryd.ntmps59
    go_wp2
    go_quiet (fail)
    go_wp2
    go_ret
    exact ⟨.nilIface, [], rfl, .nil, by simp, ((Mod.refl [] _).drewN _)⟩
theorem results_tmp_cell {fn : Func} {t p : Tmp} {ty : TypeId} (h : fn.results = #[.tmp t, .cell p ty]) (tmps : Array Value) (P : Program) (w : World) :
    (results fn tmps).run P w = ((asAddr (tmps.getD p undef)).run P w).andThen fun a w₁ => ((loadVar ty a).run P w₁).andThen fun v w₂ => .ok (.tuple #[tmps.getD t undef, v]) w₂ := by
  simp only [results, h]
  simp [Sem.run_bind, Result.andThen]
/-- A block of two numbers, as a row. -/
theorem own_two (w : World) (e f : Int) : (w.alloc (.cells #[.int .i64 e, .int .i64 f] 29)).ownsRow 0 29 1 (.slice (some ⟨w.heap.size, 0, none⟩) 2 2) 2 (ints [e, f]) :=
  ⟨rfl, .inr ⟨w.heap.size, 2, #[.int .i64 e, .int .i64 f], rfl, Nat.zero_le _, heap_alloc_new w _, Nat.le_refl _, by decide, rfl, rfl⟩⟩
theorem top8 (f : Nat → Nat) (a : Nat) (hf : ∀ i, f i < 256) : 2 ^ 63 ≤ leN f a 8 ↔ 127 < f (a + 7) := by
  have h := leN_lt f a 7 hf
  have e : leN f a 8 = leN f a 7 + f (a + 7) * 256 ^ 7 := rfl
  have := hf (a + 7)
  rw [e]
  generalize leN f a 7 = x at *
  generalize f (a + 7) = y at *
  simp only [Nat.reducePow] at *
  omega
theorem leN_suffix (f : Nat → Nat) (m : Nat) : ∀ (a j : Nat), leN f (a + m) j ≤ leN f a (m + j) := by
  induction m with
  | zero => intro a j; simp
  | succ m ih =>
    intro a j
    have h1 := ih (a + 1) j
    have h2 := leN_head f a (m + j)
    rw [show a + (m + 1) = a + 1 + m by omega, show m + 1 + j = m + j + 1 by omega, h2]
    omega
/-- What a reading call of the document's leaves. -/
def RRdPost (w : World) (T b : Nat) (s : ByteArray) (x : Value) (l : List Int) (a' : Nat) (r : Ending) (w' : World) : Prop :=
  ∃ v E, r = .returned (.tuple #[x, v]) ∧ RF w' v l E ∧ (∀ x, x ∈ E → w.heap.size ≤ x) ∧ Rdr w' T b s a' ∧ Mod [b] w w'
theorem RRdPost.badS {w w1 : World} {T b : Nat} {s : ByteArray} {x : Value} {a : Nat} {l : List Int} {v : Value} {E : List Nat} (hR : Rdr w T b s a) (hE : RF w1 v l E) (hx : ∀ x, x ∈ E → w.heap.size < x) (m : Mod [] w w1) (u0 u1 : Value) :
    RRdPost w T b s x l a (.returned (.tuple #[x, v])) ((w1.setCell ⟨w.heap.size, 0, none⟩ u0).setCell ⟨w.heap.size, 1, none⟩ u1) := by
  have hb : b < w.heap.size := Arr.lt hR
  have ms : Mod [w.heap.size] w1 ((w1.setCell ⟨w.heap.size, 0, none⟩ u0).setCell ⟨w.heap.size, 1, none⟩ u1) := ((Mod.refl _ _).setCell (.inl (by simp)) _).setCell (.inl (by simp)) _
  exact ⟨v, E, rfl, hE.mod ms (fun x h => by have := hx x h; simp; omega), fun x h => by have := hx x h; omega, (hR.mod0 m).mod ms (by simp; omega), (m.fresh ms (fun x hx => .inr (by simp at hx; omega))).nil⟩
theorem RRdPost.goodS {w w1 : World} {T b : Nat} {s : ByteArray} {x : Value} {a c : Nat} {z : Int} (hR : Rdr w T b s a) (m : Mod [] w w1) (hz : z = (c : Int)) (u0 u1 : Value) :
    RRdPost w T b s x [] c (.returned (.tuple #[x, .agg #[.slice none 0 0, .int .i64 0]])) (((w1.setCell ⟨b, 1, none⟩ (.int .i64 z)).setCell ⟨w.heap.size, 0, none⟩ u0).setCell ⟨w.heap.size, 1, none⟩ u1) := by
  have hb : b < w.heap.size := Arr.lt hR
  have ms : Mod [w.heap.size] (w1.setCell ⟨b, 1, none⟩ (.int .i64 z)) (((w1.setCell ⟨b, 1, none⟩ (.int .i64 z)).setCell ⟨w.heap.size, 0, none⟩ u0).setCell ⟨w.heap.size, 1, none⟩ u1) := ((Mod.refl _ _).setCell (.inl (by simp)) _).setCell (.inl (by simp)) _
  exact ⟨_, [], rfl, RF.none _, by simp, ((hR.mod0 m).toI hz).mod ms (by simp; omega), ((m.nil (S := [b])).setCell (p := ⟨b, 1, none⟩) (.inl (by simp)) _).fresh ms (fun x hx => .inr (by simp at hx; omega))⟩
set_option maxRecDepth 100000 in
set_option maxHeartbeats 4000000 in
theorem rrnum_calls (w : World) (b : Nat) (s : ByteArray) (a : Nat) (k : Int) (hR : Rdr w 125 b s a) (ha : a ≤ s.size) (hs : s.size ≤ 1000000) (k0 : -9223372036854775808 ≤ k) (k1 : k ≤ 9223372036854775807) :
    Calls Tryd.prog 61 #[.pointer (some ⟨b, 0, none⟩), .int .i64 k] w (RRdPost w 125 b s (.int .i64 (rdN s a k)) (rdL s a k) (rdA s a k)) := by
  obtain ⟨w0, hw0⟩ : ∃ w0, w0 = w.alloc (.cells #[.slice none 0 0, .int .i64 0] 130) := ⟨_, rfl⟩
  have m0 : Mod [] w w0 := by rw [hw0]; exact (Mod.refl _ _).alloc _
  have hsz : w0.heap.size = w.heap.size + 1 := by rw [hw0]; simp
  have RA : Hid (Arr w0 w.heap.size 130 2 (fun i => if i = 0 then .slice none 0 0 else .int .i64 0)) := Lib.hid (by rw [hw0]; exact res_arr w)
  have HR := Lib.hid hR
  have M0 := Lib.hid m0
  have HSZ := Lib.hid hsz
  have HZ := Lib.hid hw0
  have h0 := hR.mod0 m0
  have c0 := h0.c0
  have c1 := h0.c1
  have H0 := Lib.hid h0
  have WI := Lib.hid (rwide_calls w0 k _ rfl)
  have ONE := Lib.hid (fun w1 e => oneRF_calls w1 e a)
  clear hR m0 hsz hw0 h0
  by_cases hw : wideB k = true
  rotate_left
  · have hw' : wideB k = false := by simpa using hw
    have e1 : rdL s a k = [1] := by simp [rdL, hw']
    have e2 : rdN s a k = 0 := by simp [rdN, hw']
    have e3 : rdA s a k = a := by unfold rdA; rw [if_neg (by rw [e1]; simp)]
    rw [e1, e2, e3]
    rw [hw'] at WI
    clear e1 e2 e3 hw hw'
    go_enter Tryd.func61, Tryd.ntmps61
    go_wp2_with fail
    rw [← HZ.out]
    refine WI.out.mono ?_
    rintro r w1 ⟨rfl, rfl⟩
    go_wp2_with fail
    refine (ONE.out w0 1).mono ?_
    rintro r w1 ⟨sv, rfl, hRF, ⟨A, c, rfl⟩, m1⟩
    have hAR := RA.out.mod m1 (by simp)
    have r0 := hAR.cell 0 (by omega)
    have r1 := hAR.cell 1 (by omega)
    have g0 := hAR.free 0
    have g1 := hAR.free 1
    simp only [if_true, if_false, Nat.reduceEqDiff] at r0 r1
    have FIN := Lib.hid (And.intro hRF m1)
    clear hRF m1 hAR c0 c1
    go_wp2
    (try simp only [Exit.inBlock, Exit.then])
    refine bodyPost_ret (v := .tuple #[.int .i64 0, .agg #[.slice A 1 c, .int .i64 a]]) ?_ rfl ?_
    · rw [results_tmp_cell rfl]
      go_simp
    · exact RRdPost.badS HR.out FIN.out.1 (fun x hx => by have := HSZ.out; simp at hx; omega) (M0.out.trans FIN.out.2) _ _
  have hk4 := wide_cases hw
  obtain ⟨kn, rfl⟩ : ∃ kn : Nat, k = (kn : Int) := ⟨k.toNat, by omega⟩
  have hpow := pow_cases kn hk4
  have hk8 : kn ≤ 8 := by omega
  have hk0 : 0 < kn := by omega
  have eN : rdN s a kn = if (s.size : Int) - a < kn then 0 else if 2 ^ 63 ≤ leN (byS s) a kn then 0 else ((leN (byS s) a kn : Nat) : Int) := by simp [rdN, hw]
  have eL : rdL s a kn = if (s.size : Int) - a < kn then [10] else if 2 ^ 63 ≤ leN (byS s) a kn then [11] else [] := by simp [rdL, hw]
  have EN := Lib.hid eN
  have EL := Lib.hid eL
  rw [hw] at WI
  clear hw eN eL
  have ws : IntKind.i64.wrap ((s.size : Int) - (a : Int)) = (s.size : Int) - (a : Int) := IntWalk.i64_in _ (by omega)
  by_cases hsh : (s.size : Int) - a < kn
  · have t1 : decide ((s.size : Int) - (a : Int) < (kn : Int)) = true := by simpa using hsh
    have e1 := EN.out
    have e2 := EL.out
    rw [if_pos hsh] at e1 e2
    have e3 : rdA s a kn = a := by unfold rdA; rw [if_neg (by rw [e2]; simp)]
    rw [e1, e2, e3]
    clear e1 e2 e3 EN EL hsh hk4
    go_enter Tryd.func61, Tryd.ntmps61
    go_wp2_with fail
    rw [← HZ.out]
    refine WI.out.mono ?_
    rintro r w1 ⟨rfl, rfl⟩
    go_wp2
    go_quiet (fail)
    go_wp2_with fail
    refine (ONE.out _ 10).mono ?_
    rintro r w1 ⟨sv, rfl, hRF, ⟨A, c, rfl⟩, m1⟩
    have hAR := RA.out.mod (((Mod.refl [] w0).drewN _).trans m1) (by simp)
    have r0 := hAR.cell 0 (by omega)
    have r1 := hAR.cell 1 (by omega)
    have g0 := hAR.free 0
    have g1 := hAR.free 1
    simp only [if_true, if_false, Nat.reduceEqDiff] at r0 r1
    have FIN := Lib.hid (And.intro hRF (((Mod.refl [] w0).drewN _).trans m1))
    clear hRF m1 hAR c0 c1
    go_wp2
    (try simp only [Exit.inBlock, Exit.then])
    refine bodyPost_ret (v := .tuple #[.int .i64 0, .agg #[.slice A 1 c, .int .i64 a]]) ?_ rfl ?_
    · rw [results_tmp_cell rfl]
      go_simp
    · exact RRdPost.badS HR.out FIN.out.1 (fun x hx => by have := HSZ.out; simp at hx; omega) (M0.out.trans FIN.out.2) _ _
  have t1 : decide ((s.size : Int) - (a : Int) < (kn : Int)) = false := by simpa using hsh
  have hfit : a + kn ≤ s.size := by omega
  have e1 := EN.out
  have e2 := EL.out
  rw [if_neg hsh] at e1 e2
  clear EN EL hsh
  by_cases h63 : 2 ^ 63 ≤ leN (byS s) a kn
  · rw [if_pos h63] at e1 e2
    have hkn : kn = 8 := by
      rcases hk4 with h | h | h | h
      · obtain rfl : kn = 1 := by omega
        have := leN_lt (byS s) a 1 (byS_lt s); omega
      · obtain rfl : kn = 2 := by omega
        have := leN_lt (byS s) a 2 (byS_lt s); omega
      · obtain rfl : kn = 4 := by omega
        have := leN_lt (byS s) a 4 (byS_lt s); omega
      · omega
    subst hkn
    have hb7 := (top8 (byS s) a (byS_lt s)).1 h63
    have e3 : rdA s a ((8 : Nat) : Int) = a := by unfold rdA; rw [if_neg (by rw [e2]; simp)]
    rw [e1, e2, e3]
    have eb := byS_eq s (a + 7) (by omega)
    have q1 : IntKind.i64.wrap ((a : Int) + 7) = (a : Int) + 7 := IntWalk.i64_in _ (by omega)
    have n1 : ((a : Int) + 7).toNat = a + 7 := by omega
    have n2 : (0 : Int) ≤ (a : Int) + 7 := by omega
    have n3 : (a : Int) + 7 < (s.size : Int) := by omega
    have t1' : decide ((s.size : Int) - (a : Int) < 8) = false := by simp; omega
    clear t1
    have q2 : decide ((127 : Int) < ((byS s (a + 7) : Nat) : Int)) = true := by simp; omega
    clear e1 e2 e3 h63 hk4 hb7
    go_enter Tryd.func61, Tryd.ntmps61
    go_wp2_with fail
    rw [← HZ.out]
    refine WI.out.mono ?_
    rintro r w1 ⟨rfl, rfl⟩
    go_wp2
    go_quiet (fail)
    go_wp2
    go_quiet (fail)
    go_wp2_with fail
    refine (ONE.out _ 11).mono ?_
    rintro r w1 ⟨sv, rfl, hRF, ⟨A, c, rfl⟩, m1⟩
    have hAR := RA.out.mod (((Mod.refl [] w0).drewN _).trans m1) (by simp)
    have r0 := hAR.cell 0 (by omega)
    have r1 := hAR.cell 1 (by omega)
    have g0 := hAR.free 0
    have g1 := hAR.free 1
    simp only [if_true, if_false, Nat.reduceEqDiff] at r0 r1
    have FIN := Lib.hid (And.intro hRF (((Mod.refl [] w0).drewN _).trans m1))
    clear hRF m1 hAR c0 c1
    go_wp2
    (try simp only [Exit.inBlock, Exit.then])
    refine bodyPost_ret (v := .tuple #[.int .i64 0, .agg #[.slice A 1 c, .int .i64 a]]) ?_ rfl ?_
    · rw [results_tmp_cell rfl]
      go_simp
    · exact RRdPost.badS HR.out FIN.out.1 (fun x hx => by have := HSZ.out; simp at hx; omega) (M0.out.trans FIN.out.2) _ _
  · rw [if_neg h63] at e1 e2
    have e3 : rdA s a kn = a + kn := by unfold rdA; rw [if_pos e2]; simp
    rw [e1, e2, e3]
    have h63' : leN (byS s) a kn < 9223372036854775808 := by omega
    have HSUF := Lib.hid (fun j (hj : j ≤ kn) => leN_suffix (byS s) (kn - j) a j)
    have q8 : kn = 8 → ¬ 127 < byS s (a + 7) := fun e h => by
      subst e
      exact h63 ((top8 (byS s) a (byS_lt s)).2 h)
    have HQ8 := Lib.hid q8
    have HK4 := Lib.hid hk4
    clear e1 e2 e3 h63 hk4 q8
    go_enter Tryd.func61, Tryd.ntmps61
    go_wp2_with fail
    rw [← HZ.out]
    refine WI.out.mono ?_
    rintro r w1 ⟨rfl, rfl⟩
    go_wp2
    go_quiet (fail)
    go_wp2
    obtain ⟨wq, hwq⟩ : ∃ wq, wq = w0.drewN nq := ⟨_, rfl⟩
    have MQ : Mod [] w0 wq := by rw [hwq]; exact (Mod.refl _ _).drewN _
    rw [← hwq]
    have HMQ := Lib.hid MQ
    have d0 := MQ.cell' c0 (by simp)
    have d1 := MQ.cell' c1 (by simp)
    clear hwq MQ c0 c1 ws t1
    go_cut [47] (fun s47 wx => s47 = .bool false ∧ Mod [] w0 wx)
    case first =>
      by_cases h8 : kn = 8
      · subst h8
        have eb := byS_eq s (a + 7) (by omega)
        have q1 : IntKind.i64.wrap ((a : Int) + 7) = (a : Int) + 7 := IntWalk.i64_in _ (by omega)
        have n1 : ((a : Int) + 7).toNat = a + 7 := by omega
        have n2 : (0 : Int) ≤ (a : Int) + 7 := by omega
        have n3 : (a : Int) + 7 < (s.size : Int) := by omega
        have q2 : decide ((127 : Int) < ((byS s (a + 7) : Nat) : Int)) = false := by have := HQ8.out rfl; simp; omega
        go_quiet (fail)
        (try go_wp2)
        go_meet
        exact ⟨rfl, HMQ.out.drewN _⟩
      · have q1 : ((kn : Int) == 8) = false := by simp; omega
        go_quiet (fail)
        (try go_wp2)
        go_meet
        exact ⟨rfl, HMQ.out.drewN _⟩
    case rest =>
    obtain ⟨h47, hM⟩ := hcut
    subst h47
    have e0 := hM.cell' (H0.out.c0) (by simp)
    have e1 := hM.cell' (H0.out.c1) (by simp)
    have HM := Lib.hid hM
    clear hM d0 d1
    go_wp2
    go_loopw [6, 7] (fun x i wr => ∃ j : Nat, j ≤ kn ∧ i = .int .i64 ((kn : Int) - 1 - (j : Int)) ∧ x = .int .i64 ((leN (byS s) (a + (kn - j)) j : Nat) : Int) ∧ Mod [] w0 wr) (fun _ i _ => (intOf i + 1).toNat)
    case atStart => exact ⟨0, Nat.zero_le _, by simp, rfl, HM.out⟩
    case round =>
      obtain ⟨j, hj, rfl, rfl, hM⟩ := hrel
      clear HM
      have e0 := hM.cell' (H0.out.c0) (by simp)
      have e1 := hM.cell' (H0.out.c1) (by simp)
      have HM := Lib.hid hM
      clear hM
      by_cases hlt : j < kn
      · obtain ⟨i, hi⟩ : ∃ i : Nat, (i : Int) = (kn : Int) - 1 - (j : Int) := ⟨kn - 1 - j, by omega⟩
        have hlen : a + i < s.size := by omega
        have eb := byS_eq s (a + i) hlen
        have hsub : kn - j = i + 1 := by omega
        have hstep : leN (byS s) (a + i) (j + 1) = byS s (a + i) + 256 * leN (byS s) (a + (i + 1)) j := leN_head (byS s) (a + i) j
        have hbound : leN (byS s) (a + i) (j + 1) < 9223372036854775808 := by
          have h1 := HSUF.out (j + 1) (by omega)
          rw [show kn - (j + 1) = i by omega, show i + (j + 1) = kn by omega] at h1
          omega
        have hnext : kn - (j + 1) = i := by omega
        rw [← hi, hsub]
        have HI := Lib.hid hi
        have HSTEP := Lib.hid hstep
        have HNEXT := Lib.hid hnext
        have hby := byS_lt s (a + i)
        rw [hstep] at hbound
        obtain ⟨y, hy⟩ : ∃ y, y = leN (byS s) (a + (i + 1)) j := ⟨_, rfl⟩
        rw [← hy] at hbound ⊢
        have HY := Lib.hid hy
        clear hi hsub hstep hy hnext
        have i2 : (0 : Int) ≤ (i : Int) := by omega
        have q1 : IntKind.i64.wrap ((a : Int) + (i : Int)) = (a : Int) + (i : Int) := IntWalk.i64_in _ (by omega)
        have q2 : IntKind.i64.wrap ((y : Int) * 256) = (y : Int) * 256 := IntWalk.i64_in _ (by omega)
        have q4 : IntKind.i64.wrap ((byS s (a + i) : Nat) : Int) = ((byS s (a + i) : Nat) : Int) := IntWalk.i64_in _ (by omega)
        have q3 : IntKind.i64.wrap ((y : Int) * 256 + ((byS s (a + i) : Nat) : Int)) = (y : Int) * 256 + ((byS s (a + i) : Nat) : Int) := IntWalk.i64_in _ (by omega)
        have n1 : ((a : Int) + (i : Int)).toNat = a + i := by omega
        have n2 : (0 : Int) ≤ (a : Int) + (i : Int) := by omega
        have n3 : (a : Int) + (i : Int) < (s.size : Int) := by omega
        go_wp2
        go_quiet (fail)
        clear q1 q2 q3 q4 n1
        go_wp2
        go_roundw
        case rel => exact ⟨j + 1, by omega, by have := HI.out; congr 1 <;> omega, by rw [HNEXT.out, HSTEP.out, ← HY.out]; congr 1 <;> omega, HM.out.drewN _⟩
        case measure => have := HI.out; first | (simp [intOf]; done) | (simp [intOf]; omega)
      · obtain rfl : j = kn := by omega
        have i2 : ¬ (0 : Int) ≤ (j : Int) - 1 - (j : Int) := by omega
        have ei : (j : Int) - 1 - (j : Int) = -1 := by omega
        have eV : leN (byS s) (a + (j - j)) j = leN (byS s) a j := by rw [Nat.sub_self, Nat.add_zero]
        rw [ei, eV]
        have h1 := HR.out.mod0 (M0.out.trans HM.out)
        have f1 := Arr.free h1 1
        have hbl : b < w.heap.size := Arr.lt HR.out
        have hne : w.heap.size ≠ b := by omega
        have hAR := (RA.out.mod HM.out (by simp)).other (p := ⟨b, 1, none⟩) hne.symm (.int .i64 ((a : Int) + (j : Int)))
        have r0 := hAR.cell 0 (by omega)
        have r1 := hAR.cell 1 (by omega)
        have g0 := hAR.free 0
        have g1 := hAR.free 1
        simp only [if_true, if_false, Nat.reduceEqDiff] at r0 r1
        obtain ⟨y, hy⟩ : ∃ y, y = leN (byS s) a j := ⟨_, rfl⟩
        have HYY := Lib.hid hy
        rw [← hy] at h63' ⊢
        clear h1 hAR ei eV i2 hy hne
        go_wp2
        (try simp only [Exit.inBlock, Exit.then])
        refine bodyPost_ret (v := .tuple #[.int .i64 y, .agg #[.slice none 0 0, .int .i64 0]]) ?_ rfl ?_
        · rw [results_tmp_cell rfl]
          go_simp
        · rw [← HYY.out]
          exact RRdPost.goodS (c := a + j) (z := (a : Int) + (j : Int)) HR.out (M0.out.trans HM.out) (by omega) _ _
def REndPost (w : World) (s : ByteArray) (a : Nat) (r : Ending) (w' : World) : Prop := ∃ v E, r = .returned v ∧ RF w' v (endL s a) E ∧ (∀ x, x ∈ E → w.heap.size ≤ x) ∧ Mod [] w w'
set_option maxRecDepth 100000 in
set_option maxHeartbeats 2000000 in
theorem rrend_calls (w : World) (b : Nat) (s : ByteArray) (a : Nat) (hR : Rdr w 125 b s a) (ha : a ≤ s.size) (hs : s.size ≤ 1000000) :
    Calls Tryd.prog 63 #[.pointer (some ⟨b, 0, none⟩)] w (REndPost w s a) := by
  obtain ⟨w0, hw0⟩ : ∃ w0, w0 = w.alloc (.cells #[.slice none 0 0, .int .i64 0] 130) := ⟨_, rfl⟩
  have m0 : Mod [] w w0 := by rw [hw0]; exact (Mod.refl _ _).alloc _
  have RA : Hid (Arr w0 w.heap.size 130 2 (fun i => if i = 0 then .slice none 0 0 else .int .i64 0)) := Lib.hid (by rw [hw0]; exact res_arr w)
  have M0 := Lib.hid m0
  have HZ := Lib.hid hw0
  have h0 := hR.mod0 m0
  have c0 := h0.c0
  have c1 := h0.c1
  have hsz : w0.heap.size = w.heap.size + 1 := by rw [hw0]; simp
  have HSZ := Lib.hid hsz
  have ONE := Lib.hid (fun w1 => oneRF_calls w1 11 a)
  clear hR m0 hw0 h0 hsz
  by_cases h : a < s.size
  · have e : endL s a = [11] := by simp [endL, h]
    unfold REndPost
    rw [e]
    have i1 : (a : Int) < (s.size : Int) := by omega
    have t1 : decide (a < s.size) = true := by simpa using h
    clear e
    go_enter Tryd.func63, Tryd.ntmps63
    go_upto_region 1 with (fail)
    rw [← HZ.out]
    go_quiet (fail)
    go_wp2_with fail
    refine (ONE.out _).mono ?_
    rintro r w1 ⟨sv, rfl, hRF, ⟨A, c, rfl⟩, m1⟩
    have hAR := RA.out.mod (((Mod.refl [] w0).drewN _).trans m1) (by simp)
    have r0 := hAR.cell 0 (by omega)
    have r1 := hAR.cell 1 (by omega)
    have g0 := hAR.free 0
    have g1 := hAR.free 1
    simp only [if_true, if_false, Nat.reduceEqDiff] at r0 r1
    have ms : Mod [w.heap.size] w1 ((w1.setCell ⟨w.heap.size, 0, none⟩ (.slice A 1 c)).setCell ⟨w.heap.size, 1, none⟩ (.int .i64 a)) := ((Mod.refl _ _).setCell (.inl (by simp)) _).setCell (.inl (by simp)) _
    have F := Lib.hid (And.intro (hRF.mod ms (fun x hx => by have := HSZ.out; simp at hx; simp; omega)) (((M0.out.trans ((Mod.refl [] w0).drewN _)).trans m1).fresh ms (fun x hx => .inr (by simp at hx; omega))))
    clear hRF m1 hAR c0 c1 ms
    go_wp2
    (try simp only [Exit.inBlock, Exit.then])
    refine bodyPost_ret (v := .agg #[.slice A 1 c, .int .i64 a]) ?_ rfl ?_
    · rw [results_cell1 rfl]
      go_simp
    · exact ⟨_, _, rfl, F.out.1, fun x hx => by have := HSZ.out; simp at hx; omega, F.out.2⟩
  · have e : endL s a = [] := by simp [endL, h]
    have HEE := Lib.hid e
    have i1 : ¬ (a : Int) < (s.size : Int) := by omega
    have t1 : decide (a < s.size) = false := by simpa using h
    have hAR := RA.out
    have r0 := hAR.cell 0 (by omega)
    have r1 := hAR.cell 1 (by omega)
    have g0 := hAR.free 0
    have g1 := hAR.free 1
    simp only [if_true, if_false, Nat.reduceEqDiff] at r0 r1
    clear e hAR
    go_enter Tryd.func63, Tryd.ntmps63
    go_upto_region 1 with (fail)
    rw [← HZ.out]
    go_quiet (fail)
    have FIN : Hid (∀ w7, Mod [] w0 w7 → Mod [] w ((w7.setCell ⟨w.heap.size, 0, none⟩ (.slice none 0 0)).setCell ⟨w.heap.size, 1, none⟩ (.int .i64 0))) := Lib.hid (fun w7 m7 => (((M0.out.trans m7).setCell (.inr (Nat.le_refl _)) _).setCell (.inr (Nat.le_refl _)) _))
    have FD : Hid (Mod [] w0 (w0.drewN nq)) := Lib.hid ((Mod.refl _ _).drewN _)
    go_wp2
    (try simp only [Exit.inBlock, Exit.then])
    refine bodyPost_ret (v := .agg #[.slice none 0 0, .int .i64 0]) ?_ rfl ?_
    · rw [results_cell1 rfl]
      go_simp
    · exact ⟨_, [], rfl, by rw [HEE.out]; exact RF.none _, by simp, FIN.out _ FD.out⟩
/-- A writer of the law's own. -/
structure WtrN (W w : World) (T b : Nat) (bs : List UInt8) (F : List Nat) : Prop where
  h : Wtr w T b bs F
  lo : ∀ x, x ∈ F → W.heap.size ≤ x
theorem WtrN.mod {S : List Nat} {W w w' : World} {T b : Nat} {bs : List UInt8} {F : List Nat} (h : WtrN W w T b bs F) (m : Mod S w w') (hd : ∀ x, x ∈ F → x ∉ S) : WtrN W w' T b bs F := ⟨h.h.mod m hd, h.lo⟩
theorem WtrN.mod0 {W w w' : World} {T b : Nat} {bs : List UInt8} {F : List Nat} (h : WtrN W w T b bs F) (m : Mod [] w w') : WtrN W w' T b bs F := ⟨h.h.mod0 m, h.lo⟩
theorem fit13 : numL 1 3 = [1] := by decide
theorem numB13 (bs : List UInt8) : numB bs 1 3 = bs := by simp [numB, fitB, wideB]
theorem numL_len (n k : Int) : (numL n k).length ≤ 1000 := by unfold numL; split <;> simp
theorem textL_len (s : ByteArray) : (textL s).length ≤ 1000 := by unfold textL; split <;> simp
/-- A reader of the law's own. -/
structure RdrN (W w : World) (T b : Nat) (s : ByteArray) (a : Nat) : Prop where
  h : Rdr w T b s a
  lo : W.heap.size ≤ b
  le : a ≤ s.size
theorem RdrN.mod {S : List Nat} {W w w' : World} {T b : Nat} {s : ByteArray} {a : Nat} (h : RdrN W w T b s a) (m : Mod S w w') (hb : b ∉ S) : RdrN W w' T b s a := ⟨h.h.mod m hb, h.lo, h.le⟩
theorem RdrN.mod0 {W w w' : World} {T b : Nat} {s : ByteArray} {a : Nat} (h : RdrN W w T b s a) (m : Mod [] w w') : RdrN W w' T b s a := ⟨h.h.mod0 m, h.lo, h.le⟩
theorem RdrN.lt {W w : World} {T b : Nat} {s : ByteArray} {a : Nat} (h : RdrN W w T b s a) : b < w.heap.size := Arr.lt h.h
theorem rdA_le {s : ByteArray} {a : Nat} (k : Int) (h : a ≤ s.size) : rdA s a k ≤ s.size := by
  by_cases hl : rdL s a k = []
  · obtain ⟨_, h1, h2, h3, _⟩ := rd_good hl
    omega
  · unfold rdA
    rw [if_neg hl]
    exact h
theorem rtA_le {s : ByteArray} {a : Nat} (h : a ≤ s.size) : rtA s a ≤ s.size := by
  by_cases hl : rtL s a = []
  · have e : rtA s a = a + 2 + (rdN s a 2).toNat := by unfold rtA; rw [if_pos hl]
    rcases rd2 s a with ⟨_, _, e2⟩ | ⟨hsh, e1, e2, hN⟩
    · rw [e2] at hl; cases hl
    · unfold rtL at hl
      rw [if_neg (by rw [e1]; simp)] at hl
      split at hl
      · cases hl
      · split at hl
        · cases hl
        · omega
  · unfold rtA
    rw [if_neg hl]
    exact h
theorem RF.shape {w : World} {v : Value} {l : List Int} {E : List Nat} (h : RF w v l E) : ∃ A cap at_, v = .agg #[.slice A l.length cap, .int .i64 at_] := by
  obtain ⟨sv, a, rfl, ho, _⟩ := h
  obtain ⟨A, cap, rfl, _⟩ := (own_slA ho).ex
  exact ⟨A, cap, a, rfl⟩
theorem rdL_len (s : ByteArray) (a : Nat) (k : Int) : (rdL s a k).length ≤ 1 := by
  unfold rdL
  split
  · simp
  · split
    · simp
    · split <;> simp
theorem rtL_len (s : ByteArray) (a : Nat) : (rtL s a).length ≤ 1000 := by
  unfold rtL
  have := rdL_len s a 2
  split
  · rw [List.length_append]; omega
  · split
    · simp
    · split <;> simp
theorem endL_len (s : ByteArray) (a : Nat) : (endL s a).length ≤ 1000 := by unfold endL; split <;> simp

/-- A list of bytes, as a text. -/
def txt (l : List UInt8) : ByteArray := ⟨l.toArray⟩
theorem txt_size (l : List UInt8) : (txt l).size = l.length := by
  show l.toArray.size = l.length
  simp
theorem txt_toList (s : ByteArray) : txt s.data.toList = s := by
  apply ByteArray.ext
  simp [txt]
theorem byS_txt (l : List UInt8) (i : Nat) : byS (txt l) i = (l.getD i 0).toNat := by
  unfold byS txt
  simp [List.getD_eq_getElem?_getD]
theorem txt_append (a b : List UInt8) : txt (a ++ b) = txt a ++ txt b := by
  apply ByteArray.ext
  simp [txt]
theorem txt_extract (l : List UInt8) (a b : Nat) : (txt l).extract a b = txt ((l.take b).drop a) := by
  apply ByteArray.ext
  rw [ByteArray.data_extract]
  apply Array.toList_inj.1
  simp [txt, List.drop_take]
theorem leN_pre (pre mid rest : List UInt8) (n k : Nat) (hm : mid = leB n k) (hn : n < 256 ^ k) : leN (byS (txt (pre ++ mid ++ rest))) pre.length k = n := by
  rw [leN_leB n k pre.length, Nat.mod_eq_of_lt hn]
  intro i hi
  rw [byS_txt]
  subst hm
  have h1 : pre.length + i < (pre ++ leB n k).length := by simp [leB_length]; omega
  rw [List.getD_eq_getElem?_getD, List.getElem?_append_left h1, List.getElem?_append_right (by omega), show pre.length + i - pre.length = i by omega]
  unfold leB
  simp [List.getElem?_range hi]
/-- A number that was written is read. -/
theorem rd_at (pre rest : List UInt8) (n k : Nat) (hw : wideB k = true) (hn : n < 256 ^ k) (h63 : n < 9223372036854775808) :
    rdL (txt (pre ++ leB n k ++ rest)) pre.length k = [] ∧ rdN (txt (pre ++ leB n k ++ rest)) pre.length k = n ∧ rdA (txt (pre ++ leB n k ++ rest)) pre.length k = pre.length + k := by
  have hl := leN_pre pre (leB n k) rest n k rfl hn
  have hz : (txt (pre ++ leB n k ++ rest)).size = pre.length + k + rest.length := by rw [txt_size]; simp [leB_length]; omega
  have e1 : rdL (txt (pre ++ leB n k ++ rest)) pre.length k = [] := by
    unfold rdL
    rw [if_neg (by simp [hw]), if_neg (by rw [hz]; omega), Int.toNat_natCast, hl, if_neg (by omega)]
  refine ⟨e1, ?_, ?_⟩
  · unfold rdN
    rw [if_neg (by simp [hw]), if_neg (by rw [hz]; omega), Int.toNat_natCast, hl, if_neg (by omega)]
  · unfold rdA
    rw [if_pos e1, Int.toNat_natCast]
/-- A text that was written is read. -/
theorem rt_at (pre rest : List UInt8) (s : ByteArray) (hs : s.size ≤ 1024) :
    rtL (txt (pre ++ leB s.size 2 ++ s.data.toList ++ rest)) pre.length = [] ∧ rtS (txt (pre ++ leB s.size 2 ++ s.data.toList ++ rest)) pre.length = s ∧ rtA (txt (pre ++ leB s.size 2 ++ s.data.toList ++ rest)) pre.length = pre.length + 2 + s.size := by
  have h := rd_at pre (s.data.toList ++ rest) s.size 2 (by decide) (by omega) (by omega)
  rw [← List.append_assoc] at h
  obtain ⟨e1, e2, e3⟩ := h
  have hsl : s.data.toList.length = s.size := rfl
  have hz : (txt (pre ++ leB s.size 2 ++ s.data.toList ++ rest)).size = pre.length + 2 + s.size + rest.length := by
    rw [txt_size, List.length_append, List.length_append, List.length_append, leB_length, hsl]
  have e4 : rtL (txt (pre ++ leB s.size 2 ++ s.data.toList ++ rest)) pre.length = [] := by
    unfold rtL
    have e1' : rdL (txt (pre ++ leB s.size 2 ++ s.data.toList ++ rest)) pre.length 2 = [] := e1
    have e2' : rdN (txt (pre ++ leB s.size 2 ++ s.data.toList ++ rest)) pre.length 2 = (s.size : Int) := e2
    rw [if_neg (by rw [e1']; simp), e2', hz, if_neg (by omega), if_neg (by omega)]
  have e2' : rdN (txt (pre ++ leB s.size 2 ++ s.data.toList ++ rest)) pre.length 2 = (s.size : Int) := e2
  refine ⟨e4, ?_, ?_⟩
  · unfold rtS
    rw [if_pos e4, e2', Int.toNat_natCast, txt_extract]
    have h1 : ((pre ++ leB s.size 2 ++ s.data.toList ++ rest).take (pre.length + 2 + s.size)).drop (pre.length + 2) = s.data.toList := by
      rw [List.take_append_of_le_length (by rw [List.length_append, List.length_append, leB_length, hsl]; omega)]
      rw [List.take_of_length_le (by rw [List.length_append, List.length_append, leB_length, hsl]; omega)]
      rw [List.drop_append_of_le_length (by rw [List.length_append, leB_length]; omega)]
      rw [List.drop_of_length_le (by rw [List.length_append, leB_length]; omega)]
      simp
    rw [h1, txt_toList]
  · unfold rtA
    rw [if_pos e4, e2', Int.toNat_natCast]
end Go.Proofs.YtijjbkkcienfgaaDoor.Fg
namespace Go.Proofs.YtijjbkkcienfgaaDoor.Fg
set_option linter.unusedVariables false
set_option linter.unusedSimpArgs false

/-- How wide the i-th number of a command is. -/
def wd (i : Nat) : Nat := if i = 2 ∨ i = 3 ∨ i = 4 then 8 else if i = 5 ∨ i = 6 then 2 else 1
theorem wd_cases (i : Nat) : wd i = 1 ∨ wd i = 2 ∨ wd i = 8 := by
  unfold wd
  split
  · exact .inr (.inr rfl)
  · split
    · exact .inr (.inl rfl)
    · exact .inl rfl
theorem wd_wide (i : Nat) : wideB (wd i : Nat) = true := by
  rcases wd_cases i with e | e | e <;> rw [e] <;> decide
/-- Where the reader is behind j numbers; the j-th number. -/
def dAt (s : ByteArray) : Nat → Nat
  | 0 => 0
  | j + 1 => rdA s (dAt s j) (wd j : Nat)
def dN (s : ByteArray) (j : Nat) : Int := rdN s (dAt s j) (wd j : Nat)
theorem dAt_le (s : ByteArray) : ∀ j, dAt s j ≤ s.size
  | 0 => Nat.zero_le _
  | j + 1 => rdA_le _ (dAt_le s j)
def decB (s : ByteArray) : Bool := ((List.range 9).all fun i => decide (rdL s (dAt s i) (wd i : Nat) = [])) && decide (endL s (dAt s 9) = [])
theorem decB_iff (s : ByteArray) : decB s = true ↔ (∀ i, i < 9 → rdL s (dAt s i) (wd i : Nat) = []) ∧ endL s (dAt s 9) = [] := by
  unfold decB
  simp only [Bool.and_eq_true, List.all_eq_true, List.mem_range, decide_eq_true_eq]
def dCmd (s : ByteArray) : CmdT := ⟨dN s 0, dN s 1, dN s 2, dN s 3, dN s 4, dN s 5, dN s 6, dN s 7, dN s 8⟩
def zCmd : CmdT := ⟨0, 0, 0, 0, 0, 0, 0, 0, 0⟩
/-- What bytes come to. -/
def decC (s : ByteArray) : CmdT := if decB s = true then dCmd s else zCmd
def decE (s : ByteArray) : Int := if decB s = true then 0 else 30
theorem dec_bad {s : ByteArray} {j : Nat} (hj : j < 9) (h : rdL s (dAt s j) (wd j : Nat) ≠ []) : decC s = zCmd ∧ decE s = 30 := by
  have : decB s = false := Bool.eq_false_iff.2 (fun k => h (((decB_iff s).1 k).1 j hj))
  simp [decC, decE, this]
theorem dec_end {s : ByteArray} (h : endL s (dAt s 9) ≠ []) : decC s = zCmd ∧ decE s = 30 := by
  have : decB s = false := Bool.eq_false_iff.2 (fun k => h ((decB_iff s).1 k).2)
  simp [decC, decE, this]
theorem dec_ok {s : ByteArray} (h1 : ∀ i, i < 9 → rdL s (dAt s i) (wd i : Nat) = []) (h2 : endL s (dAt s 9) = []) : decC s = dCmd s ∧ decE s = 0 := by
  have : decB s = true := (decB_iff s).2 ⟨h1, h2⟩
  simp [decC, decE, this]
/-- The numbers of a command. -/
def cv (c : CmdT) (i : Nat) : Int := if i = 0 then c.k else if i = 1 then c.c else if i = 2 then c.q else if i = 3 then c.n else if i = 4 then c.l else if i = 5 then c.a else if i = 6 then c.b else if i = 7 then c.m else c.o
theorem cmd_f (c : CmdT) (i : Nat) : c.f i = .int .i64 (cv c i) := rfl
/-- The bytes behind j numbers; were all of them ones that can be written? -/
def eB (c : CmdT) : Nat → List UInt8
  | 0 => []
  | j + 1 => numB (eB c j) (cv c j) (wd j : Nat)
def eOk (c : CmdT) (j : Nat) : Bool := decide (∀ i, i < j → fitB (cv c i) (wd i : Nat) = true)
theorem eB_len (c : CmdT) : ∀ j, (eB c j).length ≤ 8 * j
  | 0 => Nat.le_refl _
  | j + 1 => by
    have h1 := eB_len c j
    have h2 := numB_len (eB c j) (cv c j) (wd j : Nat)
    show (numB (eB c j) (cv c j) (wd j : Nat)).length ≤ _
    omega
theorem eOk_succ (c : CmdT) (j : Nat) : eOk c (j + 1) = (eOk c j && fitB (cv c j) (wd j : Nat)) := by
  unfold eOk
  by_cases h : fitB (cv c j) (wd j : Nat) = true
  · rw [h, Bool.and_true]
    congr 1
    refine propext ⟨fun k i hi => k i (by omega), fun k i hi => ?_⟩
    by_cases e : i = j
    · rw [e]; exact h
    · exact k i (by omega)
  · have h2 : fitB (cv c j) (wd j : Nat) = false := by simpa using h
    rw [h2, Bool.and_false]
    exact decide_eq_false (fun k => h (k j (by omega)))
theorem eOk_zero (c : CmdT) : eOk c 0 = true := decide_eq_true (fun i hi => absurd hi (by omega))
def encS (c : CmdT) : ByteArray := if eOk c 9 = true then txt (eB c 9) else ⟨#[]⟩
def encE (c : CmdT) : Int := if eOk c 9 = true then 0 else 1
/-! ### there and back -/
theorem eB_fit {c : CmdT} {j : Nat} (h : fitB (cv c j) (wd j : Nat) = true) : eB c (j + 1) = eB c j ++ leB (cv c j).toNat (wd j) := by
  show numB (eB c j) (cv c j) (wd j : Nat) = _
  unfold numB
  rw [if_pos h, Int.toNat_natCast]
theorem eB_pre {c : CmdT} (h : eOk c 9 = true) : ∀ d j, j + d = 9 → ∃ r, eB c 9 = eB c j ++ r
  | 0, j, e => ⟨[], by rw [List.append_nil, show j = 9 by omega]⟩
  | d + 1, j, e => by
    obtain ⟨r, hr⟩ := eB_pre h d (j + 1) (by omega)
    have hf : fitB (cv c j) (wd j : Nat) = true := by
      unfold eOk at h
      exact of_decide_eq_true h j (by omega)
    exact ⟨leB (cv c j).toNat (wd j) ++ r, by rw [hr, eB_fit hf, List.append_assoc]⟩
theorem fit_bd {n : Int} {k : Nat} (h : fitB n (k : Nat) = true) (h63 : n ≤ 9223372036854775807) : 0 ≤ n ∧ n.toNat < 256 ^ k ∧ n.toNat < 9223372036854775808 := by
  unfold fitB at h
  simp only [Bool.and_eq_true, decide_eq_true_eq] at h
  obtain ⟨hw, h0, hk⟩ := h
  refine ⟨h0, ?_, by omega⟩
  rcases hk with e | e
  · have : k = 8 := by omega
    subst this
    have : (256 : Nat) ^ 8 = 18446744073709551616 := by decide
    omega
  · rw [Int.toNat_natCast] at e
    have h2 : (2 : Int) ^ (8 * k) = ((256 ^ k : Nat) : Int) := by
      rw [pow256]
      simp
    rw [h2] at e
    omega
theorem back_at {c : CmdT} (h : eOk c 9 = true) (hb : ∀ i, cv c i ≤ 9223372036854775807) : ∀ j, j ≤ 9 → dAt (txt (eB c 9)) j = (eB c j).length
  | 0, _ => rfl
  | j + 1, hj => by
    have ih := back_at h hb j (by omega)
    have hf : fitB (cv c j) (wd j : Nat) = true := by
      unfold eOk at h
      exact of_decide_eq_true h j (by omega)
    obtain ⟨h0, h1, h2⟩ := fit_bd hf (hb j)
    obtain ⟨r, hr⟩ := eB_pre h (8 - j) (j + 1) (by omega)
    have := (rd_at (eB c j) r (cv c j).toNat (wd j) (wd_wide j) h1 h2).2.2
    rw [← eB_fit hf, ← hr] at this
    show rdA (txt (eB c 9)) (dAt (txt (eB c 9)) j) (wd j : Nat) = _
    rw [ih, this, eB_fit hf, List.length_append, leB_length]
theorem back_nums {c : CmdT} (h : eOk c 9 = true) (hb : ∀ i, cv c i ≤ 9223372036854775807) (j : Nat) (hj : j < 9) : rdL (txt (eB c 9)) (dAt (txt (eB c 9)) j) (wd j : Nat) = [] ∧ dN (txt (eB c 9)) j = cv c j := by
  have hf : fitB (cv c j) (wd j : Nat) = true := by
    unfold eOk at h
    exact of_decide_eq_true h j hj
  obtain ⟨h0, h1, h2⟩ := fit_bd hf (hb j)
  obtain ⟨r, hr⟩ := eB_pre h (8 - j) (j + 1) (by omega)
  have := (rd_at (eB c j) r (cv c j).toNat (wd j) (wd_wide j) h1 h2)
  rw [← eB_fit hf, ← hr] at this
  unfold dN
  rw [back_at h hb j (by omega)]
  exact ⟨this.1, by rw [this.2.1]; omega⟩
/-- What is encoded is decoded. -/
theorem back {c : CmdT} (h : eOk c 9 = true) (hb : ∀ i, cv c i ≤ 9223372036854775807) : decC (encS c) = c ∧ decE (encS c) = 0 := by
  have e : encS c = txt (eB c 9) := by unfold encS; rw [if_pos h]
  rw [e]
  obtain ⟨h1, h2⟩ := dec_ok (s := txt (eB c 9)) (fun i hi => (back_nums h hb i hi).1) (by
    unfold endL
    rw [back_at h hb 9 (Nat.le_refl _), if_neg (by rw [txt_size]; omega)])
  refine ⟨?_, h2⟩
  rw [h1]
  unfold dCmd
  rw [(back_nums h hb 0 (by omega)).2, (back_nums h hb 1 (by omega)).2, (back_nums h hb 2 (by omega)).2, (back_nums h hb 3 (by omega)).2, (back_nums h hb 4 (by omega)).2, (back_nums h hb 5 (by omega)).2, (back_nums h hb 6 (by omega)).2, (back_nums h hb 7 (by omega)).2, (back_nums h hb 8 (by omega)).2]
  rfl
theorem back_none {c : CmdT} (h : ¬ eOk c 9 = true) : decE (encS c) = 30 := by
  have e : encS c = ⟨#[]⟩ := by unfold encS; rw [if_neg h]
  rw [e]
  refine (dec_bad (j := 0) (by omega) ?_).2
  decide
/-! ### a log -/
def rpl (f : Nat → ByteArray) : Nat → GS
  | 0 => GS.new
  | k + 1 => if decE (f k) = 0 then ((rpl f k).Do (decC (f k))).1 else rpl f k
end Go.Proofs.YtijjbkkcienfgaaDoor.Fg
namespace Go.Proofs.YtijjbkkcienfgaaDoor.Fg
open Go.RowKit
set_option linter.unusedVariables false
set_option linter.unusedSimpArgs false
attribute [local go_sem ↓] Go.wp_at_zero Go.wp_at_succ

theorem results_cell_tmp {fn : Func} {t p : Tmp} {ty : TypeId} (h : fn.results = #[.cell p ty, .tmp t]) (tmps : Array Value) (P : Program) (w : World) :
    (results fn tmps).run P w = ((asAddr (tmps.getD p undef)).run P w).andThen fun a w₁ => ((loadVar ty a).run P w₁).andThen fun v w₂ => .ok (.tuple #[v, tmps.getD t undef]) w₂ := by
  simp only [results, h]
  simp [Sem.run_bind, Result.andThen]
/-- A command laid into a block. -/
abbrev put9 (w : World) (b : Nat) (c : CmdT) : World := ((((((((w.setCell ⟨b, 0, none⟩ (.int .i64 c.k)).setCell ⟨b, 1, none⟩ (.int .i64 c.c)).setCell ⟨b, 2, none⟩ (.int .i64 c.q)).setCell ⟨b, 3, none⟩ (.int .i64 c.n)).setCell ⟨b, 4, none⟩ (.int .i64 c.l)).setCell ⟨b, 5, none⟩ (.int .i64 c.a)).setCell ⟨b, 6, none⟩ (.int .i64 c.b)).setCell ⟨b, 7, none⟩ (.int .i64 c.m)).setCell ⟨b, 8, none⟩ (.int .i64 c.o)
theorem put9_arr {w : World} {b T : Nat} {f : Nat → Value} (h : Arr w b T 9 f) (c : CmdT) : Arr (put9 w b c) b T 9 c.f :=
  (((((((((h.set 0 _).set 1 _).set 2 _).set 3 _).set 4 _).set 5 _).set 6 _).set 7 _).set 8 _).congr fun i hi => by
    match i, hi with
    | 0, _ | 1, _ | 2, _ | 3, _ | 4, _ | 5, _ | 6, _ | 7, _ | 8, _ => rfl
theorem put9_mod (w : World) (b : Nat) (c : CmdT) : Mod [b] w (put9 w b c) := by
  repeat (first | (with_reducible exact Mod.refl _ _) | (with_reducible refine Mod.setCell ?_ (.inl (by simp)) _))
theorem cell9 {w : World} {b T : Nat} {c : CmdT} (A : Arr w b T 9 c.f) :
    w.cell? ⟨b, 0, none⟩ = some (.int .i64 c.k) ∧ w.cell? ⟨b, 1, none⟩ = some (.int .i64 c.c) ∧ w.cell? ⟨b, 2, none⟩ = some (.int .i64 c.q) ∧ w.cell? ⟨b, 3, none⟩ = some (.int .i64 c.n) ∧ w.cell? ⟨b, 4, none⟩ = some (.int .i64 c.l) ∧ w.cell? ⟨b, 5, none⟩ = some (.int .i64 c.a) ∧ w.cell? ⟨b, 6, none⟩ = some (.int .i64 c.b) ∧ w.cell? ⟨b, 7, none⟩ = some (.int .i64 c.m) ∧ w.cell? ⟨b, 8, none⟩ = some (.int .i64 c.o) :=
  ⟨A.cell 0 (by omega), A.cell 1 (by omega), A.cell 2 (by omega), A.cell 3 (by omega), A.cell 4 (by omega), A.cell 5 (by omega), A.cell 6 (by omega), A.cell 7 (by omega), A.cell 8 (by omega)⟩
theorem free9 {w : World} {b T : Nat} {f : Nat → Value} (A : Arr w b T 9 f) :
    w.frozen? ⟨b, 0, none⟩ = false ∧ w.frozen? ⟨b, 1, none⟩ = false ∧ w.frozen? ⟨b, 2, none⟩ = false ∧ w.frozen? ⟨b, 3, none⟩ = false ∧ w.frozen? ⟨b, 4, none⟩ = false ∧ w.frozen? ⟨b, 5, none⟩ = false ∧ w.frozen? ⟨b, 6, none⟩ = false ∧ w.frozen? ⟨b, 7, none⟩ = false ∧ w.frozen? ⟨b, 8, none⟩ = false :=
  ⟨A.free 0, A.free 1, A.free 2, A.free 3, A.free 4, A.free 5, A.free 6, A.free 7, A.free 8⟩
theorem cload {w : World} {b : Nat} {c : CmdT} (A : Arr w b 37 9 c.f) : (loadVar 37 ⟨b, 0, none⟩).run Tryd.prog w = .ok (.agg #[.int .i64 c.k, .int .i64 c.c, .int .i64 c.q, .int .i64 c.n, .int .i64 c.l, .int .i64 c.a, .int .i64 c.b, .int .i64 c.m, .int .i64 c.o]) w :=
  run_loadVar_mid w b 0 _ [.int .i64 c.k, .int .i64 c.c, .int .i64 c.q, .int .i64 c.n, .int .i64 c.l, .int .i64 c.a, .int .i64 c.b, .int .i64 c.m, .int .i64 c.o] _ (fun j v hv => by
    rw [Nat.zero_add]
    match j with
    | 0 => simp at hv; subst hv; exact A.cell 0 (by omega)
    | 1 => simp at hv; subst hv; exact A.cell 1 (by omega)
    | 2 => simp at hv; subst hv; exact A.cell 2 (by omega)
    | 3 => simp at hv; subst hv; exact A.cell 3 (by omega)
    | 4 => simp at hv; subst hv; exact A.cell 4 (by omega)
    | 5 => simp at hv; subst hv; exact A.cell 5 (by omega)
    | 6 => simp at hv; subst hv; exact A.cell 6 (by omega)
    | 7 => simp at hv; subst hv; exact A.cell 7 (by omega)
    | 8 => simp at hv; subst hv; exact A.cell 8 (by omega)
    | j + 9 => simp at hv) Tryd.underlying37 rfl (by kernel_rfl)
theorem cres {fn : Func} {p t : Tmp} (h : fn.results = #[.cell p 37, .tmp t]) {tmps : Array Value} {w : World} {b : Nat} (hb : tmps.getD p undef = .pointer (some ⟨b, 0, none⟩)) {c : CmdT} {e : Value} (he : tmps.getD t undef = e) (A : Arr w b 37 9 c.f) :
    (results fn tmps).run Tryd.prog w = .ok (.tuple #[.agg #[.int .i64 c.k, .int .i64 c.c, .int .i64 c.q, .int .i64 c.n, .int .i64 c.l, .int .i64 c.a, .int .i64 c.b, .int .i64 c.m, .int .i64 c.o], e]) w := by
  have hp : (asAddr (.pointer (some ⟨b, 0, none⟩))).run Tryd.prog w = .ok ⟨b, 0, none⟩ w := rfl
  rw [results_cell_tmp h, hb, hp, he]
  simp only [Result.andThen]
  rw [cload A]
theorem info_cmd : (Tryd.prog.info? 37).map (·.size) = some 9 := by kernel_rfl
theorem arr_there {w : World} {b T : Nat} {f : Nat → Value} (h : Arr w b T 9 f) : w.there b 0 9 := fun j hj => ⟨by rw [Nat.zero_add, h.cell j hj]; rfl, by rw [Nat.zero_add]; exact h.free j⟩
/-- A command stored whole. -/
theorem store9 {ops : Array Oper} {rest : List Oper} {o : Oper} {a : Act} {w : World} {Q : Exit → Act → World → Prop} (b : Nat) (k0 k1 k2 k3 k4 k5 k6 k7 k8 : Int) (hgd : o.guard = none) (x y : Operand) (ho : o.op = .store 37 x y)
    (hx : a.eval x = .pointer (some ⟨b, 0, none⟩)) (hy : a.eval y = .agg #[.int .i64 k0, .int .i64 k1, .int .i64 k2, .int .i64 k3, .int .i64 k4, .int .i64 k5, .int .i64 k6, .int .i64 k7, .int .i64 k8]) (ht : w.there b 0 9)
    (h : ∀ w9, w9 = put9 w b ⟨k0, k1, k2, k3, k4, k5, k6, k7, k8⟩ → wpList Tryd.prog ops Q rest (a.put o.dst undef) w9) : wpList Tryd.prog ops Q (o :: rest) a w :=
  wpList_store_mid hgd 37 x y ho b 0 _ hx hy ht info_cmd (by simp [Value.oneCell']) (h _ rfl)
/-! ### the columns -/
def colF (b : Nat) (i : Nat) : Value := if i % 2 = 0 then .pointer (some ⟨b, i / 2, none⟩) else .int .i64 (wd (i / 2) : Nat)
def ColP (w : World) (b : Nat) (e : Ending) (w' : World) : Prop := ∃ g, w.heap.size ≤ g ∧ e = .returned (.slice (some ⟨g, 0, none⟩) 9 9) ∧ Arr w' g 117 18 (colF b) ∧ Mod [] w w'
set_option maxRecDepth 100000 in
set_option maxHeartbeats 4000000 in
theorem columns_calls (w : World) (b : Nat) : Calls Tryd.prog 57 #[.pointer (some ⟨b, 0, none⟩)] w (ColP w b) := by
  go_enter Tryd.func57, Tryd.ntmps57
  go_wp2
  first
    | (go_region_with (fail))
    | fail
  all_goals
    go_wp2
    go_ret
    refine ⟨w.heap.size, Nat.le_refl _, rfl, ?_, ?_⟩
    · first
        | exact Arr.new' w.drew _ _ 18 _ rfl (fun i hi => by
            match i, hi with
            | 0, _ | 1, _ | 2, _ | 3, _ | 4, _ | 5, _ | 6, _ | 7, _ | 8, _ | 9, _ | 10, _ | 11, _ | 12, _ | 13, _ | 14, _ | 15, _ | 16, _ | 17, _ => rfl
            | i + 18, h => exact absurd h (by omega))
        | exact (Arr.new' w _ _ 18 _ rfl (fun i hi => by
            match i, hi with
            | 0, _ | 1, _ | 2, _ | 3, _ | 4, _ | 5, _ | 6, _ | 7, _ | 8, _ | 9, _ | 10, _ | 11, _ | 12, _ | 13, _ | 14, _ | 15, _ | 16, _ | 17, _ => rfl
            | i + 18, h => exact absurd h (by omega))).drew
    · first
        | exact (Mod.refl _ _).drew.alloc _
        | exact ((Mod.refl _ _).alloc _).drew
theorem colF_p (b j : Nat) : colF b (j * 2) = .pointer (some ⟨b, j, none⟩) := by
  unfold colF
  rw [if_pos (by omega), show j * 2 / 2 = j by omega]
theorem colF_w (b j : Nat) : colF b (j * 2 + 1) = .int .i64 (wd j : Nat) := by
  unfold colF
  rw [if_neg (by omega), show (j * 2 + 1) / 2 = j by omega]
/-- What decoding comes to. -/
def DecP (w : World) (s : ByteArray) (e : Ending) (w' : World) : Prop :=
  e = .returned (.tuple #[.agg #[.int .i64 (decC s).k, .int .i64 (decC s).c, .int .i64 (decC s).q, .int .i64 (decC s).n, .int .i64 (decC s).l, .int .i64 (decC s).a, .int .i64 (decC s).b, .int .i64 (decC s).m, .int .i64 (decC s).o], .int .i64 (decE s)]) ∧ Mod [] w w'
/-- Decoding, as far as it has come. -/
structure DcI (w wr : World) (s : ByteArray) (rb g j : Nat) : Prop where
  z : Arr wr w.heap.size 37 9 zCmd.f
  c : Arr wr (w.heap.size + 1) 37 9 (fun i => if i < j then .int .i64 (dN s i) else .int .i64 0)
  r : Rdr wr 159 rb s (dAt s j)
  gg : Arr wr g 117 18 (colF (w.heap.size + 1))
  m : Mod [] w wr
  ok : ∀ i, i < j → rdL s (dAt s i) (wd i : Nat) = []
  l1 : w.heap.size + 2 ≤ rb
  l2 : w.heap.size + 2 ≤ g
theorem errs_bad {w : World} {v : Value} {l : List Int} {E : List Nat} (h : Errs w v l E) (hl : l ≠ []) : ∃ t x, v = .iface t x := by
  cases h with
  | nil => exact absurd rfl hl
  | fault _ _ => exact ⟨_, _, rfl⟩
  | num => exact ⟨_, _, rfl⟩
theorem errs_none {w : World} {v : Value} {l : List Int} {E : List Nat} (h : Errs w v l E) (hl : l = []) : v = .nilIface := h.isNil.1 hl
theorem mk_f (n : Nat → Int) (i : Nat) (hi : i < 9) : CmdT.f ⟨n 0, n 1, n 2, n 3, n 4, n 5, n 6, n 7, n 8⟩ i = .int .i64 (n i) := by
  match i, hi with
  | 0, _ | 1, _ | 2, _ | 3, _ | 4, _ | 5, _ | 6, _ | 7, _ | 8, _ => rfl
theorem dec_ok9 {s : ByteArray} {j : Nat} (hj : j = 9) (h1 : ∀ i, i < j → rdL s (dAt s i) (wd i : Nat) = []) (h2 : endL s (dAt s j) = []) : decC s = dCmd s ∧ decE s = 0 := by
  subst hj
  exact dec_ok h1 h2
theorem dec_end9 {s : ByteArray} {j : Nat} (hj : j = 9) (h : endL s (dAt s j) ≠ []) : decC s = zCmd ∧ decE s = 30 := by
  subst hj
  exact dec_end h
set_option maxRecDepth 100000 in
set_option maxHeartbeats 4000000 in
theorem decode_calls (w : World) (s : ByteArray) (hs : s.size ≤ 1000000) : Calls Tryd.prog 29 #[.string s] w (DecP w s) := by
  obtain ⟨w1, hw1⟩ : ∃ w1, w1 = (w.alloc (.cells #[.int .i64 0, .int .i64 0, .int .i64 0, .int .i64 0, .int .i64 0, .int .i64 0, .int .i64 0, .int .i64 0, .int .i64 0] 37)).alloc (.cells #[.int .i64 0, .int .i64 0, .int .i64 0, .int .i64 0, .int .i64 0, .int .i64 0, .int .i64 0, .int .i64 0, .int .i64 0] 37) := ⟨_, rfl⟩
  have m1 : Mod [] w w1 := by rw [hw1]; exact ((Mod.refl _ _).alloc _).alloc _
  have Z1 : Arr w1 w.heap.size 37 9 zCmd.f := by rw [hw1]; exact (cmd_new w _ zCmd).alloc _
  have e1 : (w.alloc (.cells #[.int .i64 0, .int .i64 0, .int .i64 0, .int .i64 0, .int .i64 0, .int .i64 0, .int .i64 0, .int .i64 0, .int .i64 0] 37)).heap.size = w.heap.size + 1 := by simp
  have C1 : Arr w1 (w.heap.size + 1) 37 9 zCmd.f := by
    rw [hw1]
    have := cmd_new (w.alloc (.cells #[.int .i64 0, .int .i64 0, .int .i64 0, .int .i64 0, .int .i64 0, .int .i64 0, .int .i64 0, .int .i64 0, .int .i64 0] 37)) 37 zCmd
    rw [e1] at this
    exact this
  have hsz : w1.heap.size = w.heap.size + 2 := by rw [hw1]; simp
  have NR := Lib.hid (newReader_calls w1 s)
  have HW1 := Lib.hid hw1
  have HS := Lib.hid hs
  have M1 := Lib.hid m1
  have HZ := Lib.hid Z1
  have HC := Lib.hid C1
  have HSZ := Lib.hid hsz
  clear hw1 m1 Z1 C1 hsz e1 hs
  go_enter Tryd.func29, Tryd.ntmps29
  go_wp2_with fail
  rw [← HW1.out]
  refine NR.out.mono ?_
  rintro e w2 ⟨rfl, r2, m2⟩
  rw [HSZ.out]
  have CL := Lib.hid (columns_calls w2 (w.heap.size + 1))
  have R2 := Lib.hid r2
  have M2 := Lib.hid m2
  clear r2 m2 NR
  go_wp2_with fail
  refine CL.out.mono ?_
  rintro e w3 ⟨g, hg, rfl, g3, m3⟩
  have I0 := Lib.hid (show DcI w w3 s (w.heap.size + 2) g 0 from ⟨(HZ.out.mod M2.out (by simp)).mod m3 (by simp), ((HC.out.mod M2.out (by simp)).mod m3 (by simp)).congr (fun i hi => by
    rw [if_neg (by omega)]
    match i, hi with
    | 0, _ | 1, _ | 2, _ | 3, _ | 4, _ | 5, _ | 6, _ | 7, _ | 8, _ => rfl), by have := R2.out.mod0 m3; rw [HSZ.out] at this; exact this, g3, (M1.out.trans M2.out).trans m3, fun i hi => absurd hi (by omega), Nat.le_refl _, by have := M2.out.size; have := HSZ.out; omega⟩)
  clear g3 m3 hg CL R2
  go_wp2
  generalize w.heap.size + 2 = rb at *
  go_loopw [14] (fun i wr => ∃ j : Nat, j ≤ 9 ∧ i = .int .i64 j ∧ DcI w wr s rb g j) (fun i _ => 9 - (intOf i).toNat)
  case atStart => exact ⟨0, by omega, rfl, I0.out⟩
  case round =>
    obtain ⟨j, hj, rfl, hI⟩ := hrel
    clear I0
    by_cases hlt : j < 9
    · have i0 : (0 : Int) ≤ (j : Int) := by omega
      have i1 : (j : Int) < 9 := by omega
      have y0 := hI.gg.cell (j * 2) (by omega)
      have y1 := hI.gg.cell (j * 2 + 1) (by omega)
      rw [colF_p] at y0
      rw [colF_w] at y1
      obtain ⟨wj, hwj⟩ : ∃ wj, wj = wd j := ⟨_, rfl⟩
      rw [← hwj] at y1
      obtain ⟨w4, hw4⟩ : ∃ w4, w4 = wr.alloc (.cells #[.pointer (some ⟨w.heap.size + 1, j, none⟩), .int .i64 wj] 117) := ⟨_, rfl⟩
      have m4 : Mod [] wr w4 := by rw [hw4]; exact (Mod.refl _ _).alloc _
      have k4 : Arr w4 wr.heap.size 117 2 (fun i => if i = 0 then .pointer (some ⟨w.heap.size + 1, j, none⟩) else .int .i64 wj) := by
        rw [hw4]
        exact Arr.new' wr _ _ 2 _ rfl (fun i hi => by
          match i, hi with
          | 0, _ | 1, _ => rfl)
      have NM := Lib.hid (rnum_calls w4 rb s (dAt s j) (wj : Nat) (hI.r.mod0 m4) (dAt_le s j) HS.out (by omega) (by rcases wd_cases j with e | e | e <;> omega))
      have q0 := k4.cell 0 (by omega)
      have q1 := k4.cell 1 (by omega)
      simp only [if_true, if_false, Nat.reduceEqDiff] at q0 q1
      rw [hw4] at q1
      have HW4 := Lib.hid hw4
      have HI := Lib.hid hI
      have K4 := Lib.hid k4
      have M4 := Lib.hid m4
      have HWJ := Lib.hid hwj
      have hrl := Arr.lt hI.r
      clear hI hw4 k4 m4 hwj q0
      go_wp2_with fail
      rw [← HW4.out]
      refine NM.out.mono ?_
      rintro e w5 ⟨v, E, rfl, hE, hx, r5, m5⟩
      by_cases hl : rdL s (dAt s j) (wj : Nat) = []
      · obtain rfl := errs_none hE hl
        have nb : w.heap.size + 1 ≠ rb ∧ w.heap.size ≠ rb ∧ g ≠ rb := ⟨by have := HI.out.l1; omega, by have := HI.out.l1; omega, arr_ne HI.out.gg HI.out.r (by decide)⟩
        have n1 : ∀ k, k ≠ rb → k ∉ [rb] := fun k h e => h (List.mem_singleton.1 e)
        have k5 := K4.out.mod m5 (n1 _ (by omega))
        have q0 := k5.cell 0 (by omega)
        simp only [if_true, if_false, Nat.reduceEqDiff] at q0
        have c5 := (HI.out.c.mod M4.out (by simp)).mod m5 (n1 _ nb.1)
        have u0 : w5.cell? ⟨w.heap.size + 1, j, none⟩ = some (.int .i64 0) := by have := c5.cell j hlt; rw [if_neg (by omega)] at this; exact this
        have k5l := k5.lt
        have c5l := c5.lt
        have u1 := c5.free j
        obtain ⟨x, hx9⟩ : ∃ x, x = rdN s (dAt s j) (wj : Nat) := ⟨_, rfl⟩
        rw [← hx9]
        have mm : Mod [w.heap.size + 1] w5 (w5.setCell ⟨w.heap.size + 1, j, none⟩ (.int .i64 x)) := (Mod.refl _ _).setCell (.inl (by simp)) _
        have n2 : ∀ k, k ≠ w.heap.size + 1 → k ∉ [w.heap.size + 1] := fun k h e => h (List.mem_singleton.1 e)
        have l2 := HI.out.l2
        have FIN := Lib.hid (show DcI w (w5.setCell ⟨w.heap.size + 1, j, none⟩ (.int .i64 x)) s rb g (j + 1) from
          ⟨((HI.out.z.mod M4.out (by simp)).mod m5 (n1 _ nb.2.1)).mod mm (n2 _ (by omega)), (c5.set j _).congr (fun i hi => by
            by_cases e1 : i = j
            · subst e1
              rw [if_pos rfl, if_pos (by omega), hx9, HWJ.out]
              rfl
            · rw [if_neg e1]
              by_cases e2 : i < j
              · rw [if_pos e2, if_pos (by omega)]
              · rw [if_neg e2, if_neg (by omega)]), by
            have := r5.mod mm (n2 _ (Ne.symm nb.1))
            rw [HWJ.out] at this
            exact this, ((HI.out.gg.mod M4.out (by simp)).mod m5 (n1 _ nb.2.2)).mod mm (n2 _ (by omega)),
            ((HI.out.m.trans M4.out).fresh m5 (fun z hz => .inr (by have := List.mem_singleton.1 hz; have := HI.out.l1; omega))).fresh mm (fun z hz => .inr (by have := List.mem_singleton.1 hz; omega)),
            fun i hi => by
              by_cases e1 : i = j
              · rw [e1, ← HWJ.out]; exact hl
              · exact HI.out.ok i (by omega), HI.out.l1, HI.out.l2⟩)
        clear hE hx r5 m5 k5 c5 mm hl nb n1 n2 q1 y0 y1 hx9 NM
        go_wp2
        go_roundw
        case rel => exact ⟨j + 1, by omega, by go_num, FIN.out⟩
        case measure => simp [intOf]; omega
      · obtain ⟨t, x, rfl⟩ := errs_bad hE hl
        have D := Lib.hid (dec_bad hlt (by rw [← HWJ.out]; exact hl))
        have n1 : w.heap.size ∉ [rb] := fun e => by have := List.mem_singleton.1 e; have := HI.out.l1; omega
        have z5 := (HI.out.z.mod M4.out (by simp)).mod m5 n1
        have HZ5 := Lib.hid z5
        have M5 := Lib.hid ((HI.out.m.trans M4.out).fresh m5 (fun z hz => .inr (by have := List.mem_singleton.1 hz; have := HI.out.l1; omega)) : Mod [] w w5)
        clear hE hx r5 m5 z5 hl n1 q1 y0 y1 NM
        go_wp2_with (refine store9 w.heap.size 0 0 0 0 0 0 0 0 0 rfl _ _ rfl rfl rfl (arr_there HZ5.out) ?_; intro w9 hw9; have HW9 := Lib.hid hw9; clear hw9)
        exact bodyPost_ret (cres rfl rfl rfl (by rw [HW9.out]; exact put9_arr HZ5.out zCmd)) rfl ⟨by rw [D.out.1, D.out.2]; rfl, by rw [HW9.out]; exact M5.out.fresh (put9_mod w5 w.heap.size zCmd) (fun z hz => .inr (by have := List.mem_singleton.1 hz; omega))⟩
    · have hlt' : decide ((j : Int) < 9) = false := decide_eq_false (by omega)
      have J9 := Lib.hid (show j = 9 by omega)
      have HI := Lib.hid hI
      have EN := Lib.hid (rend_calls wr rb s (dAt s j) hI.r (dAt_le s j) HS.out)
      clear hI hlt hj
      go_wp2_with fail
      refine EN.out.mono ?_
      rintro e w5 ⟨v, E, rfl, hE, hx, m5⟩
      have z5 := HI.out.z.mod m5 (by simp)
      have HZ5 := Lib.hid z5
      have M5 := Lib.hid (HI.out.m.trans m5)
      by_cases hl : endL s (dAt s j) = []
      · obtain rfl := errs_none hE hl
        have D := Lib.hid (dec_ok9 J9.out HI.out.ok hl)
        have C5 := (HI.out.c.mod m5 (by simp)).congr (g := (dCmd s).f) (fun i hi => by
          rw [if_pos (by rw [J9.out]; exact hi)]
          exact (mk_f (dN s) i hi).symm)
        obtain ⟨d, hd⟩ : ∃ d, d = dCmd s := ⟨_, rfl⟩
        rw [← hd] at C5 D
        obtain ⟨k0, k1, k2, k3, k4, k5, k6, k7, k8⟩ := cell9 C5
        clear hE hx m5 z5 hl C5 hd
        go_wp2_with (refine store9 w.heap.size d.k d.c d.q d.n d.l d.a d.b d.m d.o rfl _ _ rfl rfl rfl (arr_there HZ5.out) ?_; intro w9 hw9; have HW9 := Lib.hid hw9; clear hw9)
        exact bodyPost_ret (cres rfl rfl rfl (by rw [HW9.out]; exact put9_arr HZ5.out d)) rfl ⟨by rw [D.out.1, D.out.2]; rfl, by rw [HW9.out]; exact M5.out.fresh (put9_mod w5 w.heap.size d) (fun z hz => .inr (by have := List.mem_singleton.1 hz; omega))⟩
      · obtain ⟨t, x, rfl⟩ := errs_bad hE hl
        have D := Lib.hid (dec_end9 J9.out hl)
        clear hE hx m5 z5 hl
        go_wp2_with (refine store9 w.heap.size 0 0 0 0 0 0 0 0 0 rfl _ _ rfl rfl rfl (arr_there HZ5.out) ?_; intro w9 hw9; have HW9 := Lib.hid hw9; clear hw9)
        exact bodyPost_ret (cres rfl rfl rfl (by rw [HW9.out]; exact put9_arr HZ5.out zCmd)) rfl ⟨by rw [D.out.1, D.out.2]; rfl, by rw [HW9.out]; exact M5.out.fresh (put9_mod w5 w.heap.size zCmd) (fun z hz => .inr (by have := List.mem_singleton.1 hz; omega))⟩
/-! ### into bytes -/
def EncP (w : World) (c : CmdT) (e : Ending) (w' : World) : Prop := e = .returned (.tuple #[.string (encS c), .int .i64 (encE c)]) ∧ Mod [] w w'
theorem enc_bad {c : CmdT} {j : Nat} (hj : j < 9) (h : fitB (cv c j) (wd j : Nat) = false) : encS c = ⟨#[]⟩ ∧ encE c = 1 := by
  have : ¬ eOk c 9 = true := fun k => by
    unfold eOk at k
    have := of_decide_eq_true k j hj
    rw [h] at this
    cases this
  simp [encS, encE, this]
theorem enc_ok {c : CmdT} (h : eOk c 9 = true) : encS c = txt (eB c 9) ∧ encE c = 0 := by simp [encS, encE, h]
theorem enc_ok9 {c : CmdT} {j : Nat} (hj : j = 9) (h : eOk c j = true) : encS c = txt (eB c j) ∧ encE c = 0 := by
  subst hj
  exact enc_ok h
/-- The number of a writer, told by whether it fits. -/
theorem wnum_fit (w : World) (b : Nat) (bs : List UInt8) (F : List Nat) (n k : Int) (hW : Wtr w 164 b bs F) (n0 : -9223372036854775808 ≤ n) (n1 : n ≤ 9223372036854775807) (k0 : -9223372036854775808 ≤ k) (k1 : k ≤ 9223372036854775807) (hl : bs.length ≤ 400000) (q : Bool) (hq : q = fitB n k) :
    Calls Tryd.prog 65 #[.pointer (some ⟨b, 0, none⟩), .int .i64 n, .int .i64 k] w fun r w' => ∃ v F', r = .returned v ∧ (q = true → v = .nilIface) ∧ (q = false → ∃ t x, v = .iface t x) ∧ Wtr w' 164 b (numB bs n k) F' ∧ Grow F F' w w' := by
  refine (wnum_calls w b bs F n k hW n0 n1 k0 k1 hl).mono ?_
  rintro r w' ⟨v, E, F', rfl, hE, hx, hW', hG⟩
  refine ⟨v, F', rfl, fun h => errs_none hE ?_, fun h => errs_bad hE ?_, hW', hG⟩
  · rw [hq] at h
    simp [numL, h]
  · rw [hq] at h
    simp [numL, h]
structure EcI (w wr : World) (c : CmdT) (wb g j : Nat) (F : List Nat) : Prop where
  cc : Arr wr w.heap.size 37 9 c.f
  ww : Wtr wr 164 wb (eB c j) F
  gg : Arr wr g 117 18 (colF w.heap.size)
  m : Mod [] w wr
  ok : eOk c j = true
  lo : ∀ x, x ∈ F → w.heap.size < x
  nf : g ∉ F
  lg : w.heap.size < g
set_option maxRecDepth 100000 in
set_option maxHeartbeats 4000000 in
theorem encode_calls (w : World) (c : CmdT) (hb : ∀ i, -9223372036854775808 ≤ cv c i ∧ cv c i ≤ 9223372036854775807) : Calls Tryd.prog 33 #[.agg c.arr] w (EncP w c) := by
  obtain ⟨w1, hw1⟩ : ∃ w1, w1 = w.alloc (.cells c.arr 37) := ⟨_, rfl⟩
  have m1 : Mod [] w w1 := by rw [hw1]; exact (Mod.refl _ _).alloc _
  have C1 : Arr w1 w.heap.size 37 9 c.f := by rw [hw1]; exact cmd_new w _ c
  have hsz : w1.heap.size = w.heap.size + 1 := by rw [hw1]; simp
  have NW := Lib.hid (newWriter_calls w1)
  have HW1 := Lib.hid hw1
  have M1 := Lib.hid m1
  have HC := Lib.hid C1
  have HSZ := Lib.hid hsz
  have HB := Lib.hid hb
  clear hw1 m1 C1 hsz hb
  unfold CmdT.arr at HW1 ⊢
  go_enter Tryd.func33, Tryd.ntmps33
  go_wp2_with fail
  rw [← HW1.out]
  refine NW.out.mono ?_
  rintro e w2 ⟨rfl, r2, m2⟩
  have CL := Lib.hid (columns_calls w2 w.heap.size)
  have R2 := Lib.hid r2
  have M2 := Lib.hid m2
  clear r2 m2 NW
  go_wp2_with fail
  refine CL.out.mono ?_
  rintro e w3 ⟨g, hg, rfl, g3, m3⟩
  have I0 := Lib.hid (show EcI w w3 c w1.heap.size g 0 [w1.heap.size] from ⟨(HC.out.mod M2.out (by simp)).mod m3 (by simp), R2.out.mod0 m3, g3, (M1.out.trans M2.out).trans m3, eOk_zero c, fun x hx => by have := List.mem_singleton.1 hx; have := HSZ.out; omega, fun e => by
    have e := List.mem_singleton.1 e
    have := R2.out.lt _ R2.out.here
    omega, by have := M2.out.size; have := HSZ.out; omega⟩)
  clear g3 m3 hg CL R2
  go_wp2
  generalize w1.heap.size = wb at *
  go_loopw [10] (fun i wr => ∃ (j : Nat) (F : List Nat), j ≤ 9 ∧ i = .int .i64 j ∧ EcI w wr c wb g j F) (fun i _ => 9 - (intOf i).toNat)
  case atStart => exact ⟨0, _, by omega, rfl, I0.out⟩
  case round =>
    obtain ⟨j, F, hj, rfl, hI⟩ := hrel
    clear I0
    by_cases hlt : j < 9
    · have i0 : (0 : Int) ≤ (j : Int) := by omega
      have i1 : (j : Int) < 9 := by omega
      have y0 := hI.gg.cell (j * 2) (by omega)
      have y1 := hI.gg.cell (j * 2 + 1) (by omega)
      rw [colF_p] at y0
      rw [colF_w] at y1
      obtain ⟨wj, hwj⟩ : ∃ wj, wj = wd j := ⟨_, rfl⟩
      rw [← hwj] at y1
      obtain ⟨w4, hw4⟩ : ∃ w4, w4 = wr.alloc (.cells #[.pointer (some ⟨w.heap.size, j, none⟩), .int .i64 wj] 117) := ⟨_, rfl⟩
      have m4 : Mod [] wr w4 := by rw [hw4]; exact (Mod.refl _ _).alloc _
      have k4 : Arr w4 wr.heap.size 117 2 (fun i => if i = 0 then .pointer (some ⟨w.heap.size, j, none⟩) else .int .i64 wj) := by
        rw [hw4]
        exact Arr.new' wr _ _ 2 _ rfl (fun i hi => by
          match i, hi with
          | 0, _ | 1, _ => rfl)
      have c4 := hI.cc.mod m4 (by simp)
      obtain ⟨x, hx9⟩ : ∃ x, x = cv c j := ⟨_, rfl⟩
      have u0 : w4.cell? ⟨w.heap.size, j, none⟩ = some (.int .i64 x) := by rw [hx9]; exact c4.cell j hlt
      obtain ⟨q, hq⟩ : ∃ q, q = fitB x (wj : Nat) := ⟨_, rfl⟩
      have NM := Lib.hid (wnum_fit w4.drew wb (eB c j) F x (wj : Nat) ((hI.ww.mod0 m4).mod0 (Mod.refl [] w4).drew) (by rw [hx9]; exact (HB.out j).1) (by rw [hx9]; exact (HB.out j).2) (by omega) (by rcases wd_cases j with e | e | e <;> omega) (by have := eB_len c j; omega) q hq)
      have q0 := k4.cell 0 (by omega)
      have q1 := k4.cell 1 (by omega)
      simp only [if_true, if_false, Nat.reduceEqDiff] at q0 q1
      have KS := Lib.hid (And.intro q0 (And.intro q1 u0))
      have HW4 := Lib.hid hw4
      have HI := Lib.hid hI
      have M4 := Lib.hid m4
      have HWJ := Lib.hid hwj
      have HX9 := Lib.hid hx9
      have HQ := Lib.hid hq
      have hk4 := k4.lt
      have KSM := Lib.hid (fun w' (m : Mod F w4.drew w') => And.intro (m.cell' q0 (fun e => by have h9 : wr.heap.size < wr.heap.size := hI.ww.lt _ e; omega)) (And.intro (m.cell' q1 (fun e => by have h9 : wr.heap.size < wr.heap.size := hI.ww.lt _ e; omega)) (m.cell' u0 (fun e => by have h9 : w.heap.size < w.heap.size := hI.lo _ e; omega))))
      clear hI hw4 k4 m4 hwj q0 q1 u0 c4 hx9 hq
      go_upto_region 5 with (fail)
      rw [← HW4.out]
      clear y0 y1
      cases q with
      | true =>
        first
          | (go_region_held3 (fun w' => w'.cell? ⟨wr.heap.size, 0, none⟩ = some (.pointer (some ⟨w.heap.size, j, none⟩)) ∧ w'.cell? ⟨wr.heap.size, 1, none⟩ = some (.int .i64 wj) ∧ w'.cell? ⟨w.heap.size, j, none⟩ = some (.int .i64 x))
              (first | exact KS.out | exact KSM.out _ (by assumption))
              (first | (go_at_call 65; (with_reducible refine NM.out.mono ?_); rintro e w5 ⟨v, F', rfl, hv, hv2, hW5, hG5⟩; obtain rfl := hv rfl; have mF := hG5.mod)))
          | fail
        have m5 := Mod.of_drew hG5.mod
        have FIN := Lib.hid (show EcI w w5 c wb g (j + 1) F' from
          ⟨(HI.out.cc.mod M4.out (by simp)).mod m5 (fun e => by have := HI.out.lo _ e; omega), by
            have h9 := hW5
            rw [HX9.out, HWJ.out] at h9
            exact h9, (HI.out.gg.mod M4.out (by simp)).mod m5 HI.out.nf, (HI.out.m.trans M4.out).fresh m5 (fun z hz => .inr (by have := HI.out.lo z hz; omega)), by
            rw [eOk_succ, HI.out.ok, ← HX9.out, ← HWJ.out, ← HQ.out]
            rfl, fun z hz => by
            rcases hG5.new z hz with h | h
            · exact HI.out.lo z h
            · have h1 := HI.out.m.size
              have h2 := M4.out.size
              have h3 : w4.drew.heap.size = w4.heap.size := rfl
              omega, fun e => by
            rcases hG5.new g e with h | h
            · exact HI.out.nf h
            · have h1 := HI.out.gg.lt
              have h2 := M4.out.size
              have h3 : w4.drew.heap.size = w4.heap.size := rfl
              omega, HI.out.lg⟩)
        clear hv hv2 hW5 hG5 mF m5
        go_wp2
        go_roundw
        case rel => exact ⟨j + 1, F', by omega, by go_num, FIN.out⟩
        case measure => simp [intOf]; omega
      | false =>
        first
          | (go_region_held3 (fun w' => w'.cell? ⟨wr.heap.size, 0, none⟩ = some (.pointer (some ⟨w.heap.size, j, none⟩)) ∧ w'.cell? ⟨wr.heap.size, 1, none⟩ = some (.int .i64 wj) ∧ w'.cell? ⟨w.heap.size, j, none⟩ = some (.int .i64 x))
              (first | exact KS.out | exact KSM.out _ (by assumption))
              (first | (go_at_call 65; (with_reducible refine NM.out.mono ?_); rintro e w5 ⟨v, F', rfl, hv, hv2, hW5, hG5⟩; obtain ⟨ty, xv, rfl⟩ := hv2 rfl; have mF := hG5.mod)))
          | fail
        have m5 := Mod.of_drew hG5.mod
        have FIN := Lib.hid ((HI.out.m.trans M4.out).fresh m5 (fun z hz => .inr (by have := HI.out.lo z hz; omega)) : Mod [] w w5)
        have D := Lib.hid (enc_bad hlt (by rw [← HX9.out, ← HWJ.out, ← HQ.out]))
        clear hv hv2 hW5 hG5 mF m5
        go_wp2
        go_ret2
        exact ⟨by rw [D.out.1, D.out.2]; rfl, FIN.out⟩
    · have hlt' : decide ((j : Int) < 9) = false := decide_eq_false (by omega)
      have J9 := Lib.hid (show j = 9 by omega)
      have BY := Lib.hid (wbytes_calls wr wb (eB c j) F hI.ww)
      have D := Lib.hid (enc_ok9 J9.out hI.ok)
      clear hlt hj
      have M9 := Lib.hid hI.m
      clear hI
      go_wp2_with fail
      refine BY.out.mono ?_
      rintro e w5 ⟨rfl, rfl⟩
      go_wp2
      go_ret2
      exact ⟨by rw [D.out.1, D.out.2]; rfl, M9.out⟩
end Go.Proofs.YtijjbkkcienfgaaDoor.Fg
namespace Go.Proofs.YtijjbkkcienfgaaDoor.Fg
open Go.RowKit
set_option linter.unusedVariables false
set_option linter.unusedSimpArgs false
attribute [local go_sem ↓] Go.wp_at_zero Go.wp_at_succ

def NumP (w : World) (c : CmdT) (e : Ending) (w' : World) : Prop :=
  ∃ g1 g2, w.heap.size < g1 ∧ w.heap.size < g2 ∧ g1 ≠ g2 ∧ e = .returned (.tuple #[.slice (some ⟨g1, 0, none⟩) 9 9, .slice (some ⟨g2, 0, none⟩) 9 9]) ∧ Arr w' g1 3 9 c.f ∧ Arr w' g2 3 9 (fun i => .int .i64 (wd i : Nat)) ∧ Mod [] w w'
set_option maxRecDepth 100000 in
set_option maxHeartbeats 4000000 in
theorem numbers_calls (w : World) (c : CmdT) : Calls Tryd.prog 60 #[.agg c.arr] w (NumP w c) := by
  obtain ⟨w1, hw1⟩ : ∃ w1, w1 = w.alloc (.cells c.arr 59) := ⟨_, rfl⟩
  have C1 : Arr w1 w.heap.size 59 9 c.f := by rw [hw1]; exact cmd_new w _ c
  have hsz : w1.heap.size = w.heap.size + 1 := by rw [hw1]; simp
  have fin : ∀ w2 w3, w2 = w1.alloc (.cells c.arr 3) → w3 = w2.alloc (.cells #[.int .i64 1, .int .i64 1, .int .i64 8, .int .i64 8, .int .i64 8, .int .i64 2, .int .i64 2, .int .i64 1, .int .i64 1] 3) →
      NumP w c (.returned (.tuple #[.slice (some ⟨w1.heap.size, 0, none⟩) 9 9, .slice (some ⟨w2.heap.size, 0, none⟩) 9 9])) w3 := by
    intro w2 w3 h2 h3
    have m3 : Mod [] w2 w3 := by rw [h3]; exact (Mod.refl _ _).alloc _
    have m2 : Mod [] w1 w2 := by rw [h2]; exact (Mod.refl _ _).alloc _
    have m1 : Mod [] w w1 := by rw [hw1]; exact (Mod.refl _ _).alloc _
    have s2 : w2.heap.size = w1.heap.size + 1 := by rw [h2]; simp
    refine ⟨w1.heap.size, w2.heap.size, by omega, by omega, by omega, rfl, ?_, ?_, (m1.trans m2).trans m3⟩
    · have : Arr w2 w1.heap.size 3 9 c.f := by rw [h2]; exact cmd_new w1 _ c
      exact this.mod m3 (by simp)
    · rw [h3]
      exact Arr.new' w2 _ _ 9 _ rfl (fun i hi => by
        match i, hi with
        | 0, _ | 1, _ | 2, _ | 3, _ | 4, _ | 5, _ | 6, _ | 7, _ | 8, _ => rfl)
  have FIN := Lib.hid fin
  have HW1 := Lib.hid hw1
  have HSZ := Lib.hid hsz
  clear C1 hw1 fin hsz
  unfold CmdT.arr at HW1 FIN ⊢
  go_enter Tryd.func60, Tryd.ntmps60
  go_wp2
  go_ret2
  have := FIN.out _ _ rfl rfl
  rw [HW1.out] at this
  simpa using this
theorem rcload {w : World} {b : Nat} {c : CmdT} (A : Arr w b 59 9 c.f) : (loadVar 59 ⟨b, 0, none⟩).run Tryd.prog w = .ok (.agg #[.int .i64 c.k, .int .i64 c.c, .int .i64 c.q, .int .i64 c.n, .int .i64 c.l, .int .i64 c.a, .int .i64 c.b, .int .i64 c.m, .int .i64 c.o]) w :=
  run_loadVar_mid w b 0 _ [.int .i64 c.k, .int .i64 c.c, .int .i64 c.q, .int .i64 c.n, .int .i64 c.l, .int .i64 c.a, .int .i64 c.b, .int .i64 c.m, .int .i64 c.o] _ (fun j v hv => by
    rw [Nat.zero_add]
    match j with
    | 0 => simp at hv; subst hv; exact A.cell 0 (by omega)
    | 1 => simp at hv; subst hv; exact A.cell 1 (by omega)
    | 2 => simp at hv; subst hv; exact A.cell 2 (by omega)
    | 3 => simp at hv; subst hv; exact A.cell 3 (by omega)
    | 4 => simp at hv; subst hv; exact A.cell 4 (by omega)
    | 5 => simp at hv; subst hv; exact A.cell 5 (by omega)
    | 6 => simp at hv; subst hv; exact A.cell 6 (by omega)
    | 7 => simp at hv; subst hv; exact A.cell 7 (by omega)
    | 8 => simp at hv; subst hv; exact A.cell 8 (by omega)
    | j + 9 => simp at hv) Tryd.underlying59 rfl (by kernel_rfl)
theorem rcres {fn : Func} {p t : Tmp} (h : fn.results = #[.cell p 59, .tmp t]) {tmps : Array Value} {w : World} {b : Nat} (hb : tmps.getD p undef = .pointer (some ⟨b, 0, none⟩)) {c : CmdT} {e : Value} (he : tmps.getD t undef = e) (A : Arr w b 59 9 c.f) :
    (results fn tmps).run Tryd.prog w = .ok (.tuple #[.agg #[.int .i64 c.k, .int .i64 c.c, .int .i64 c.q, .int .i64 c.n, .int .i64 c.l, .int .i64 c.a, .int .i64 c.b, .int .i64 c.m, .int .i64 c.o], e]) w := by
  have hp : (asAddr (.pointer (some ⟨b, 0, none⟩))).run Tryd.prog w = .ok ⟨b, 0, none⟩ w := rfl
  rw [results_cell_tmp h, hb, hp, he]
  simp only [Result.andThen]
  rw [rcload A]
theorem rinfo_cmd : (Tryd.prog.info? 59).map (·.size) = some 9 := by kernel_rfl
theorem rstore9 {ops : Array Oper} {rest : List Oper} {o : Oper} {a : Act} {w : World} {Q : Exit → Act → World → Prop} (b : Nat) (k0 k1 k2 k3 k4 k5 k6 k7 k8 : Int) (hgd : o.guard = none) (x y : Operand) (ho : o.op = .store 59 x y)
    (hx : a.eval x = .pointer (some ⟨b, 0, none⟩)) (hy : a.eval y = .agg #[.int .i64 k0, .int .i64 k1, .int .i64 k2, .int .i64 k3, .int .i64 k4, .int .i64 k5, .int .i64 k6, .int .i64 k7, .int .i64 k8]) (ht : w.there b 0 9)
    (h : ∀ w9, w9 = put9 w b ⟨k0, k1, k2, k3, k4, k5, k6, k7, k8⟩ → wpList Tryd.prog ops Q rest (a.put o.dst undef) w9) : wpList Tryd.prog ops Q (o :: rest) a w :=
  wpList_store_mid hgd 59 x y ho b 0 _ hx hy ht rinfo_cmd (by simp [Value.oneCell']) (h _ rfl)
theorem int_info : (Tryd.prog.info? 3).map (fun i => (i.zero, i.size, i.bytes)) = some (some (.int .i64 0), 1, 8) := by kernel_rfl
/-- Decoding at the document's side, as far as it has come. -/
structure RcI (w wr : World) (s : ByteArray) (rb g j : Nat) (nv : Value) : Prop where
  z : Arr wr w.heap.size 59 9 zCmd.f
  r : Rdr wr 125 rb s (dAt s j)
  gg : Arr wr g 3 9 (fun i => .int .i64 (wd i : Nat))
  n : wr.ownsRow (w.heap.size + 1) 3 1 nv j ((List.range j).map fun i => .int .i64 (dN s i))
  m : Mod [] w wr
  ok : ∀ i, i < j → rdL s (dAt s i) (wd i : Nat) = []
  l1 : w.heap.size < rb
  l2 : w.heap.size < g
  ng : ∀ k, nv.ownBlock = some k → k ≠ g
theorem rd_one {s : ByteArray} {a : Nat} {k : Int} (h : rdL s a k ≠ []) : ∃ z, z ≠ 0 ∧ rdL s a k = [z] := by
  unfold rdL at h ⊢
  split
  · exact ⟨1, by omega, rfl⟩
  · rename_i h1
    rw [if_neg h1] at h
    split
    · exact ⟨10, by omega, rfl⟩
    · rename_i h2
      rw [if_neg h2] at h
      split
      · exact ⟨11, by omega, rfl⟩
      · rename_i h3
        rw [if_neg h3] at h
        exact absurd rfl h
theorem end_one {s : ByteArray} {a : Nat} (h : endL s a ≠ []) : endL s a = [11] := by
  unfold endL at h ⊢
  split
  · rfl
  · rename_i h1
    rw [if_neg h1] at h
    exact absurd rfl h
theorem code_of (w : World) (v : Value) (l : List Int) (E : List Nat) (h : RF w v l E) (z : Int) (hz : z = l.headD 0) (hl : l.length ≤ 1000) :
    Calls Tryd.prog 62 #[v] w fun r w' => r = .returned (.int .i64 z) ∧ Mod [] w w' :=
  (rcode_calls w v l E h hl).mono fun r w' k => ⟨by rw [k.1, hz], k.2⟩
def RDecP (w : World) (s : ByteArray) (e : Ending) (w' : World) : Prop :=
  e = .returned (.tuple #[.agg #[.int .i64 (decC s).k, .int .i64 (decC s).c, .int .i64 (decC s).q, .int .i64 (decC s).n, .int .i64 (decC s).l, .int .i64 (decC s).a, .int .i64 (decC s).b, .int .i64 (decC s).m, .int .i64 (decC s).o], .int .i64 (decE s)]) ∧ Mod [] w w'
set_option maxRecDepth 100000 in
set_option maxHeartbeats 16000000 in
theorem rdecode_calls (w : World) (s : ByteArray) (hs : s.size ≤ 1000000) : Calls Tryd.prog 30 #[.string s] w (RDecP w s) := by
  obtain ⟨w1, hw1⟩ : ∃ w1, w1 = (w.alloc (.cells #[.int .i64 0, .int .i64 0, .int .i64 0, .int .i64 0, .int .i64 0, .int .i64 0, .int .i64 0, .int .i64 0, .int .i64 0] 59)).alloc (.cells #[.string s, .int .i64 0] 125) := ⟨_, rfl⟩
  have e1 : (w.alloc (.cells #[.int .i64 0, .int .i64 0, .int .i64 0, .int .i64 0, .int .i64 0, .int .i64 0, .int .i64 0, .int .i64 0, .int .i64 0] 59)).heap.size = w.heap.size + 1 := by simp
  have m1 : Mod [] w w1 := by rw [hw1]; exact ((Mod.refl _ _).alloc _).alloc _
  have Z1 : Arr w1 w.heap.size 59 9 zCmd.f := by rw [hw1]; exact (cmd_new w _ zCmd).alloc _
  have R1 : Rdr w1 125 (w.heap.size + 1) s 0 := by
    have := Rdr.new (w.alloc (.cells #[.int .i64 0, .int .i64 0, .int .i64 0, .int .i64 0, .int .i64 0, .int .i64 0, .int .i64 0, .int .i64 0, .int .i64 0] 59)) 125 s
    rw [e1] at this
    rw [hw1]
    exact this
  have hsz : w1.heap.size = w.heap.size + 2 := by rw [hw1]; simp
  have NC := numbers_calls w1 zCmd
  unfold CmdT.arr zCmd at NC
  simp only at NC
  have NC := Lib.hid NC
  have HW1 := Lib.hid hw1
  have HS := Lib.hid hs
  have M1 := Lib.hid m1
  have HZ := Lib.hid Z1
  have HR := Lib.hid R1
  have HSZ := Lib.hid hsz
  clear hw1 m1 Z1 R1 hsz e1 hs
  go_enter Tryd.func30, Tryd.ntmps30
  go_wp2_with fail
  rw [← HW1.out]
  refine NC.out.mono ?_
  rintro e w2 ⟨g1, g, l1, l2, hgg, rfl, a1, a2, m2⟩
  obtain ⟨w3, hw3⟩ : ∃ w3, w3 = w2.alloc (.cells #[] 3) := ⟨_, rfl⟩
  have m3 : Mod [] w2 w3 := by rw [hw3]; exact (Mod.refl _ _).alloc _
  have I0 := Lib.hid (show RcI w w3 s (w.heap.size + 1) g 0 (.slice (some ⟨w2.heap.size, 0, none⟩) 0 0) from
    ⟨(HZ.out.mod m2 (by simp)).mod m3 (by simp), (HR.out.mod0 m2).mod0 m3, a2.mod m3 (by simp), by
      rw [hw3]
      exact own_empty w2 _ _ _ (by have := m2.size; have := HSZ.out; omega), (M1.out.trans m2).trans m3, fun i hi => absurd hi (by omega), by omega, by have := HSZ.out; omega, fun k hk e => by
      have h1 : w2.heap.size = k := by simpa [Value.ownBlock] using hk
      have := a2.lt
      omega⟩)
  have HW3 := Lib.hid hw3
  clear a1 a2 m2 m3 l1 l2 hgg hw3 NC
  go_wp2
  rw [← HW3.out]
  generalize w.heap.size + 1 = rb at *
  go_loopw [7, 8] (fun nv i wr => ∃ j : Nat, j ≤ 9 ∧ i = .int .i64 j ∧ RcI w wr s rb g j nv) (fun _ i _ => 9 - (intOf i).toNat)
  case atStart => exact ⟨0, by omega, rfl, I0.out⟩
  case round =>
    obtain ⟨j, hj, rfl, hI⟩ := hrel
    clear I0
    by_cases hlt : j < 9
    · have i0 : (0 : Int) ≤ (j : Int) := by omega
      have i1 : (j : Int) < 9 := by omega
      have y1 := hI.gg.cell j hlt
      obtain ⟨wj, hwj⟩ : ∃ wj, wj = wd j := ⟨_, rfl⟩
      rw [← hwj] at y1
      have NM := Lib.hid (rrnum_calls wr rb s (dAt s j) (wj : Nat) hI.r (dAt_le s j) HS.out (by omega) (by rcases wd_cases j with e | e | e <;> omega))
      have HI := Lib.hid hI
      have HWJ := Lib.hid hwj
      clear hI hwj
      go_wp2_with fail
      refine NM.out.mono ?_
      rintro e w5 ⟨v, E, rfl, hF, hx, r5, m5⟩
      obtain ⟨A, cp, at_, rfl⟩ := RF.shape hF
      obtain ⟨w6, hw6⟩ : ∃ w6, w6 = w5.alloc (.cells #[.slice A (rdL s (dAt s j) (wj : Nat)).length cp, .int .i64 at_] 130) := ⟨_, rfl⟩
      have m6 : Mod [] w5 w6 := by rw [hw6]; exact (Mod.refl _ _).alloc _
      have f6 : Arr w6 w5.heap.size 130 2 (fun i => if i = 0 then .slice A (rdL s (dAt s j) (wj : Nat)).length cp else .int .i64 at_) := by
        rw [hw6]
        exact Arr.new' w5 _ _ 2 _ rfl (fun i hi => by
          match i, hi with
          | 0, _ | 1, _ => rfl)
      have q0 := f6.cell 0 (by omega)
      have q1 := f6.cell 1 (by omega)
      simp only [if_true, if_false, Nat.reduceEqDiff] at q0 q1
      obtain ⟨zz, hzz⟩ : ∃ zz, zz = (rdL s (dAt s j) (wj : Nat)).headD 0 := ⟨_, rfl⟩
      have CD := Lib.hid (code_of w6 _ _ E (hF.mod m6 (by simp)) zz hzz (by have := rdL_len s (dAt s j) (wj : Nat); omega))
      have HZZ := Lib.hid hzz
      have n1 : ∀ k, k ≠ rb → k ∉ [rb] := fun k h e => h (List.mem_singleton.1 e)
      have n2 : w.heap.size ≠ rb := by have := HI.out.l1; omega
      have ng : g ≠ rb := arr_ne HI.out.gg HI.out.r (by decide)
      have nn : ∀ k, u7.ownBlock = some k → k ≠ rb := fun k hk e => by
        subst e
        exact own_notArr HI.out.n HI.out.r (by decide) (by simpa using hk)
      have Z6 := Lib.hid ((HI.out.z.mod m5 (n1 _ n2)).mod m6 (by simp))
      have R6 := Lib.hid (r5.mod0 m6)
      have G6 := Lib.hid ((HI.out.gg.mod m5 (n1 _ ng)).mod m6 (by simp))
      have N6 := Lib.hid (own_mod (own_mod HI.out.n m5 (fun k hk => n1 _ (nn k hk))) m6 (fun _ _ => by simp))
      have M6 := Lib.hid ((HI.out.m.fresh m5 (fun z hz => .inr (by have := List.mem_singleton.1 hz; have := HI.out.l1; omega)) : Mod [] w w5).trans m6)
      have HW6 := Lib.hid hw6
      obtain ⟨x, hx9⟩ : ∃ x, x = rdN s (dAt s j) (wj : Nat) := ⟨_, rfl⟩
      rw [← hx9]
      have HX9 := Lib.hid hx9
      clear hF hx r5 m5 m6 f6 hw6 hzz hx9 n1 n2 ng nn NM
      go_upto_region 8 with (fail)
      rw [← HW6.out]
      go_wp2_with fail
      refine CD.out.mono ?_
      rintro e w7 ⟨rfl, m7⟩
      by_cases hl : rdL s (dAt s j) (wj : Nat) = []
      · have z0 : zz = 0 := by rw [HZZ.out, hl]; rfl
        subst z0
        have HLL := Lib.hid hl
        have HM7 := Lib.hid m7
        have HO := Lib.hid (own_mod N6.out (m7.alloc (.cells #[.int .i64 x] 3)) (fun _ _ => by simp))
        have HC := Lib.hid (new_cell1 w7 (.int .i64 x) 3 w7.heap.size rfl)
        have hsz := M6.out.size
        have hsz7 := m7.size
        have hwn := Arr.lt Z6.out
        clear hl m7 q0 q1 y1 CD
        go_wp2_with (at_builtin; refine app1 (w.heap.size + 1) 32 3 (.int .i64 0) 1 8 Tryd.underlying32 int_info rfl (by omega) (by omega) rfl _ _ rfl u7 _ _ rfl HO.out w7.heap.size [.int .i64 x] rfl rfl (news1 HC.out) (by simp [Value.oneCell']) (by omega) (by simp; omega) ?_; intro g9 cap1 w8 ho2 hm2 hg9 hbg)
        have sv : Mod [] w7 (w7.alloc (.cells #[.int .i64 x] 3)) := (Mod.refl _ _).alloc _
        have k7 : Mod [] w6 (w7.alloc (.cells #[.int .i64 x] 3)) := HM7.out.trans sv
        have n3 : g ∉ u7.ownBlock.toList := fun e => HI.out.ng g (by simpa using e) rfl
        have n4 : w.heap.size ∉ u7.ownBlock.toList := fun e => by have := own_far HI.out.n _ e; omega
        have n5 : rb ∉ u7.ownBlock.toList := own_notArr HI.out.n HI.out.r (by decide)
        have FIN := Lib.hid (show RcI w w8 s rb g (j + 1) (.slice (some ⟨g9, 0, none⟩) (j + 1) cap1) from
          ⟨(Z6.out.mod k7 (by simp)).mod hm2 n4, by
            have := (R6.out.mod0 k7).mod hm2 n5
            rw [HWJ.out] at this
            exact this, (G6.out.mod k7 (by simp)).mod hm2 n3, by
            rw [List.range_succ, List.map_append]
            have e9 : dN s j = x := by rw [HX9.out, HWJ.out]; rfl
            simp only [List.map_cons, List.map_nil, e9]
            exact ho2, (M6.out.trans k7).fresh hm2 (fun z hz => .inr (by have := own_far HI.out.n z hz; omega)), fun i hi => by
            by_cases e1 : i = j
            · rw [e1, ← HWJ.out]; exact HLL.out
            · exact HI.out.ok i (by omega), HI.out.l1, HI.out.l2, fun k hk e => by
            have h9 : g9 = k := by simpa [Value.ownBlock] using hk
            subst e
            rcases hg9 with h | h
            · exact HI.out.ng k (by rw [h, h9]) rfl
            · have h1 := (G6.out.mod HM7.out (by simp)).lt
              simp at h
              omega⟩)
        clear ho2 hm2 hg9 hbg sv k7 n3 n4 n5
        go_roundw
        case rel => exact ⟨j + 1, by omega, by go_num, FIN.out⟩
        case measure => simp [intOf]; omega
      · obtain ⟨z9, hz9, hl1⟩ := rd_one hl
        have zn : (zz != 0) = true := by
          have : zz = z9 := by rw [HZZ.out, hl1]; rfl
          rw [this]
          simpa using hz9
        have D := Lib.hid (dec_bad hlt (by rw [← HWJ.out]; exact hl))
        have HZ7 := Lib.hid (Z6.out.mod m7 (by simp))
        have M7 := Lib.hid (M6.out.trans m7)
        clear hl hz9 hl1 m7 q0 q1 y1 CD
        go_wp2_with (refine rstore9 w.heap.size 0 0 0 0 0 0 0 0 0 rfl _ _ rfl rfl rfl (arr_there HZ7.out) ?_; intro w9 hw9; have HW9 := Lib.hid hw9; clear hw9)
        exact bodyPost_ret (rcres rfl rfl rfl (by rw [HW9.out]; exact put9_arr HZ7.out zCmd)) rfl ⟨by rw [D.out.1, D.out.2]; rfl, by rw [HW9.out]; exact M7.out.fresh (put9_mod w7 w.heap.size zCmd) (fun z hz => .inr (by have := List.mem_singleton.1 hz; omega))⟩
    · have hlt' : decide ((j : Int) < 9) = false := decide_eq_false (by omega)
      have J9 := Lib.hid (show j = 9 by omega)
      have HI := Lib.hid hI
      have EN := Lib.hid (rrend_calls wr rb s (dAt s j) hI.r (dAt_le s j) HS.out)
      clear hI hlt hj
      go_wp2_with fail
      refine EN.out.mono ?_
      rintro e w5 ⟨v, E, rfl, hF, hx, m5⟩
      obtain ⟨A, cp, at_, rfl⟩ := RF.shape hF
      obtain ⟨zz, hzz⟩ : ∃ zz, zz = (endL s (dAt s j)).headD 0 := ⟨_, rfl⟩
      have CD := Lib.hid (code_of w5 _ _ E hF zz hzz (by have := endL_len s (dAt s j); omega))
      have HZZ := Lib.hid hzz
      have Z5 := Lib.hid (HI.out.z.mod m5 (by simp))
      have M5 := Lib.hid (HI.out.m.trans m5)
      have N5 := Lib.hid (own_mod HI.out.n m5 (fun _ _ => by simp))
      clear hF hx m5 hzz EN
      go_wp2_with fail
      refine CD.out.mono ?_
      rintro e w7 ⟨rfl, m7⟩
      by_cases hl : endL s (dAt s j) = []
      · have z0 : zz = 0 := by rw [HZZ.out, hl]; rfl
        subst z0
        have D := Lib.hid (dec_ok9 J9.out HI.out.ok hl)
        have HZ7 := Lib.hid (Z5.out.mod m7 (by simp))
        have M7 := Lib.hid (M5.out.trans m7)
        have N7 := own_mod N5.out m7 (fun _ _ => by simp)
        obtain ⟨gn, cn, rfl, hgn, hc1, hc2, an⟩ := own_arr N7 (by rw [J9.out]; omega)
        obtain ⟨nn, hnn⟩ : ∃ nn : Nat → Int, nn = dN s := ⟨_, rfl⟩
        have kcm : ∀ w', Mod [w.heap.size] w7 w' → ∀ i, i < 9 → w'.cell? ⟨gn, i, none⟩ = some (.int .i64 (nn i)) := fun w' h i hi => by
          have h1 := (an.mod h (by simp; omega)).cell i (by rw [J9.out]; omega)
          rw [h1, hnn]
          congr 1
          rw [List.getD_eq_getElem?_getD, List.getElem?_map, List.getElem?_range (by rw [J9.out]; exact hi)]
          rfl
        have kc := kcm w7 (Mod.refl _ _)
        have HNN := Lib.hid (show decC s = ⟨nn 0, nn 1, nn 2, nn 3, nn 4, nn 5, nn 6, nn 7, nn 8⟩ by rw [D.out.1, hnn]; rfl)
        have n7 : gn ≠ w.heap.size := by omega
        have jj : (j : Int) = 9 := by have := J9.out; omega
        have k0 := kc 0 (by omega)
        have k1 := kc 1 (by omega)
        have k2 := kc 2 (by omega)
        have k3 := kc 3 (by omega)
        have k4 := kc 4 (by omega)
        have k5 := kc 5 (by omega)
        have k6 := kc 6 (by omega)
        have k7 := kc 7 (by omega)
        have k8 := kc 8 (by omega)
        have KS := Lib.hid (show w7.cell? ⟨gn, 0, none⟩ = some (.int .i64 (nn 0)) ∧ w7.cell? ⟨gn, 1, none⟩ = some (.int .i64 (nn 1)) ∧ w7.cell? ⟨gn, 2, none⟩ = some (.int .i64 (nn 2)) ∧ w7.cell? ⟨gn, 3, none⟩ = some (.int .i64 (nn 3)) ∧ w7.cell? ⟨gn, 4, none⟩ = some (.int .i64 (nn 4)) ∧ w7.cell? ⟨gn, 5, none⟩ = some (.int .i64 (nn 5)) ∧ w7.cell? ⟨gn, 6, none⟩ = some (.int .i64 (nn 6)) ∧ w7.cell? ⟨gn, 7, none⟩ = some (.int .i64 (nn 7)) ∧ w7.cell? ⟨gn, 8, none⟩ = some (.int .i64 (nn 8)) from ⟨k0, k1, k2, k3, k4, k5, k6, k7, k8⟩)
        have KSM := Lib.hid (fun w' (h : Mod [w.heap.size] w7 w') => (⟨kcm w'.drew h.drew 0 (by omega), kcm w'.drew h.drew 1 (by omega), kcm w'.drew h.drew 2 (by omega), kcm w'.drew h.drew 3 (by omega), kcm w'.drew h.drew 4 (by omega), kcm w'.drew h.drew 5 (by omega), kcm w'.drew h.drew 6 (by omega), kcm w'.drew h.drew 7 (by omega), kcm w'.drew h.drew 8 (by omega)⟩ : w'.drew.cell? ⟨gn, 0, none⟩ = some (.int .i64 (nn 0)) ∧ w'.drew.cell? ⟨gn, 1, none⟩ = some (.int .i64 (nn 1)) ∧ w'.drew.cell? ⟨gn, 2, none⟩ = some (.int .i64 (nn 2)) ∧ w'.drew.cell? ⟨gn, 3, none⟩ = some (.int .i64 (nn 3)) ∧ w'.drew.cell? ⟨gn, 4, none⟩ = some (.int .i64 (nn 4)) ∧ w'.drew.cell? ⟨gn, 5, none⟩ = some (.int .i64 (nn 5)) ∧ w'.drew.cell? ⟨gn, 6, none⟩ = some (.int .i64 (nn 6)) ∧ w'.drew.cell? ⟨gn, 7, none⟩ = some (.int .i64 (nn 7)) ∧ w'.drew.cell? ⟨gn, 8, none⟩ = some (.int .i64 (nn 8))))
        have HZD := Lib.hid (show Arr (put9 w7 w.heap.size ⟨nn 0, nn 1, nn 2, nn 3, nn 4, nn 5, nn 6, nn 7, nn 8⟩).drew w.heap.size 59 9 (CmdT.f ⟨nn 0, nn 1, nn 2, nn 3, nn 4, nn 5, nn 6, nn 7, nn 8⟩) from Arr.drew (put9_arr HZ7.out ⟨nn 0, nn 1, nn 2, nn 3, nn 4, nn 5, nn 6, nn 7, nn 8⟩))
        have FIN := Lib.hid (fun w' (h : Mod [w.heap.size] w7 w') => (M7.out.fresh h (fun z hz => .inr (by have := List.mem_singleton.1 hz; omega)) : Mod [] w w').drew)
        obtain ⟨f0, f1, f2, f3, f4, f5, f6, f7, f8⟩ := free9 HZ7.out
        obtain ⟨c0, c1, c2, c3, c4, c5, c6, c7, c8⟩ := cell9 HZ7.out
        clear k0 k1 k2 k3 k4 k5 k6 k7 k8 kc kcm an hnn N7 m7 hl CD
        go_wp2
        first
          | (go_region_held3 (fun w' => w'.cell? ⟨gn, 0, none⟩ = some (.int .i64 (nn 0)) ∧ w'.cell? ⟨gn, 1, none⟩ = some (.int .i64 (nn 1)) ∧ w'.cell? ⟨gn, 2, none⟩ = some (.int .i64 (nn 2)) ∧ w'.cell? ⟨gn, 3, none⟩ = some (.int .i64 (nn 3)) ∧ w'.cell? ⟨gn, 4, none⟩ = some (.int .i64 (nn 4)) ∧ w'.cell? ⟨gn, 5, none⟩ = some (.int .i64 (nn 5)) ∧ w'.cell? ⟨gn, 6, none⟩ = some (.int .i64 (nn 6)) ∧ w'.cell? ⟨gn, 7, none⟩ = some (.int .i64 (nn 7)) ∧ w'.cell? ⟨gn, 8, none⟩ = some (.int .i64 (nn 8)))
              ((with_reducible refine KSM.out _ ?_; repeat (first | (with_reducible refine Mod.setCell ?_ (.inl (by simp)) _) | (with_reducible exact Mod.refl _ _))))
              (fail))
          | fail
        go_wp2
        exact bodyPost_ret (rcres rfl rfl rfl HZD.out) rfl ⟨by rw [HNN.out, D.out.2]; rfl, FIN.out _ (put9_mod w7 w.heap.size ⟨nn 0, nn 1, nn 2, nn 3, nn 4, nn 5, nn 6, nn 7, nn 8⟩)⟩
      · have zn : (zz != 0) = true := by rw [HZZ.out, end_one hl]; rfl
        have D := Lib.hid (dec_end9 J9.out hl)
        have HZ7 := Lib.hid (Z5.out.mod m7 (by simp))
        have M7 := Lib.hid (M5.out.trans m7)
        clear hl m7 CD
        go_wp2_with (refine rstore9 w.heap.size 0 0 0 0 0 0 0 0 0 rfl _ _ rfl rfl rfl (arr_there HZ7.out) ?_; intro w9 hw9; have HW9 := Lib.hid hw9; clear hw9)
        exact bodyPost_ret (rcres rfl rfl rfl (by rw [HW9.out]; exact put9_arr HZ7.out zCmd)) rfl ⟨by rw [D.out.1, D.out.2]; rfl, by rw [HW9.out]; exact M7.out.fresh (put9_mod w7 w.heap.size zCmd) (fun z hz => .inr (by have := List.mem_singleton.1 hz; omega))⟩
end Go.Proofs.YtijjbkkcienfgaaDoor.Fg
namespace Go.Proofs.YtijjbkkcienfgaaDoor.Fg
open Go.RowKit
set_option linter.unusedVariables false
set_option linter.unusedSimpArgs false
attribute [local go_sem ↓] Go.wp_at_zero Go.wp_at_succ

theorem rwnum_fit (w : World) (b : Nat) (bs : List UInt8) (F : List Nat) (n k : Int) (hW : Wtr w 142 b bs F) (n0 : -9223372036854775808 ≤ n) (n1 : n ≤ 9223372036854775807) (k0 : -9223372036854775808 ≤ k) (k1 : k ≤ 9223372036854775807) (hl : bs.length ≤ 400000) :
    Calls Tryd.prog 67 #[.pointer (some ⟨b, 0, none⟩), .int .i64 n, .int .i64 k] w fun r w' => ∃ v E F', r = .returned v ∧ RF w' v (numL n k) E ∧ Wtr w' 142 b (numB bs n k) F' ∧ Grow F F' w w' := by
  refine (rwnum_calls w b bs F n k hW n0 n1 k0 k1 hl).mono ?_
  rintro r w' ⟨v, E, F', rfl, hE, hx, hW', hG⟩
  exact ⟨v, E, F', rfl, hE, hW', hG⟩
theorem enc_bad9 {c : CmdT} {j : Nat} (hj : j = 9) (h : eOk c j = false) : encS c = ⟨#[]⟩ ∧ encE c = 1 := by
  subst hj
  simp [encS, encE, h]
structure ReI (w wr : World) (c : CmdT) (wb g1 g2 j : Nat) (F : List Nat) (bb : Bool) : Prop where
  ww : Wtr wr 142 wb (eB c j) F
  a1 : Arr wr g1 3 9 c.f
  a2 : Arr wr g2 3 9 (fun i => .int .i64 (wd i : Nat))
  m : Mod [] w wr
  ok : bb = !eOk c j
  lo : ∀ x, x ∈ F → w.heap.size < x
  n1 : g1 ∉ F
  n2 : g2 ∉ F
set_option maxRecDepth 100000 in
set_option maxHeartbeats 8000000 in
theorem rencode_calls (w : World) (c : CmdT) (hb : ∀ i, -9223372036854775808 ≤ cv c i ∧ cv c i ≤ 9223372036854775807) : Calls Tryd.prog 34 #[.agg c.arr] w (EncP w c) := by
  obtain ⟨w1, hw1⟩ : ∃ w1, w1 = w.alloc (.cells c.arr 59) := ⟨_, rfl⟩
  have m1 : Mod [] w w1 := by rw [hw1]; exact (Mod.refl _ _).alloc _
  have C1 : Arr w1 w.heap.size 59 9 c.f := by rw [hw1]; exact cmd_new w _ c
  have hsz : w1.heap.size = w.heap.size + 1 := by rw [hw1]; simp
  obtain ⟨w2, hw2⟩ : ∃ w2, w2 = w1.alloc (.cells #[.slice none 0 0] 142) := ⟨_, rfl⟩
  have m2 : Mod [] w1 w2 := by rw [hw2]; exact (Mod.refl _ _).alloc _
  have W2 : Wtr w2 142 (w.heap.size + 1) [] [w.heap.size + 1] := by rw [hw2, ← hsz]; exact Wtr.new w1 _
  have C2 := C1.mod m2 (by simp)
  obtain ⟨c0, c1, c2, c3, c4, c5, c6, c7, c8⟩ := cell9 C2
  have hsz2 : w2.heap.size = w.heap.size + 2 := by rw [hw2]; simp [hsz]
  have NC := numbers_calls w2 c
  unfold CmdT.arr at NC
  have NC := Lib.hid NC
  have HW1 := Lib.hid hw1
  have HW2 := Lib.hid hw2
  have M2 := Lib.hid (m1.trans m2)
  have HWW := Lib.hid W2
  have HSZ := Lib.hid hsz
  have HSZ2 := Lib.hid hsz2
  have HB := Lib.hid hb
  clear hw1 hw2 m1 m2 C1 C2 W2 hsz hsz2 hb
  unfold CmdT.arr at HW1 ⊢
  go_enter Tryd.func34, Tryd.ntmps34
  go_upto_region 2 with (fail)
  rw [← HW1.out]
  rw [← HW2.out]
  go_wp2_with fail
  refine NC.out.mono ?_
  rintro e w3 ⟨g1, g2, l1, l2, l3, rfl, a1, a2, m3⟩
  have I0 := Lib.hid (show ReI w w3 c (w.heap.size + 1) g1 g2 0 [w.heap.size + 1] false from ⟨HWW.out.mod0 m3, a1, a2, M2.out.trans m3, by rw [eOk_zero]; rfl, fun x hx => by have := List.mem_singleton.1 hx; have := HSZ.out; omega, fun e => by
    have e := List.mem_singleton.1 e
    have := HSZ.out
    have := HSZ2.out
    omega, fun e => by
    have e := List.mem_singleton.1 e
    have := HSZ.out
    have := HSZ2.out
    omega⟩)
  clear a1 a2 m3 l1 l2 l3 NC HWW c0 c1 c2 c3 c4 c5 c6 c7 c8
  go_wp2
  generalize w.heap.size + 1 = wb at *
  go_loopw [7, 8] (fun bv i wr => ∃ (j : Nat) (F : List Nat) (bb : Bool), j ≤ 9 ∧ bv = .bool bb ∧ i = .int .i64 j ∧ ReI w wr c wb g1 g2 j F bb) (fun _ i _ => 9 - (intOf i).toNat)
  case atStart => exact ⟨0, _, _, by omega, rfl, rfl, I0.out⟩
  case round =>
    obtain ⟨j, F, bb, hj, rfl, rfl, hI⟩ := hrel
    clear I0
    by_cases hlt : j < 9
    · have i0 : (0 : Int) ≤ (j : Int) := by omega
      have i1 : (j : Int) < 9 := by omega
      obtain ⟨wj, hwj⟩ : ∃ wj, wj = wd j := ⟨_, rfl⟩
      obtain ⟨x, hx9⟩ : ∃ x, x = cv c j := ⟨_, rfl⟩
      have u0 : wr.cell? ⟨g1, j, none⟩ = some (.int .i64 x) := by rw [hx9]; exact hI.a1.cell j hlt
      have u1 : wr.cell? ⟨g2, j, none⟩ = some (.int .i64 wj) := by rw [hwj]; exact hI.a2.cell j hlt
      obtain ⟨q, hq⟩ : ∃ q, q = fitB x (wj : Nat) := ⟨_, rfl⟩
      have NM := Lib.hid (rwnum_fit wr.drew wb (eB c j) F x (wj : Nat) (hI.ww.mod0 (Mod.refl [] wr).drew) (by rw [hx9]; exact (HB.out j).1) (by rw [hx9]; exact (HB.out j).2) (by omega) (by rcases wd_cases j with e | e | e <;> omega) (by have := eB_len c j; omega))
      have KS := Lib.hid (And.intro u0 u1)
      have KSM := Lib.hid (fun w' (m : Mod F wr.drew w') => And.intro (m.cell' u0 hI.n1) (m.cell' u1 hI.n2))
      have HI := Lib.hid hI
      have HWJ := Lib.hid hwj
      have HX9 := Lib.hid hx9
      have HQ := Lib.hid hq
      have HL := Lib.hid (show (numL x (wj : Nat)).length ≤ 1000 from numL_len _ _)
      have NEXT := Lib.hid (fun (w5 w6 : World) (F' : List Nat) (b' : Bool) (hb' : b' = !(eOk c j && q)) (hW5 : Wtr w5 142 wb (numB (eB c j) x (wj : Nat)) F') (hG5 : Grow F F' wr.drew w5) (m6 : Mod [] w5 w6) => (show ReI w w6 c wb g1 g2 (j + 1) F' b' from by
        have m5 := Mod.of_drew (hG5.mod.trans m6.nil)
        refine ⟨?_, HI.out.a1.mod m5 HI.out.n1, HI.out.a2.mod m5 HI.out.n2, HI.out.m.fresh m5 (fun z hz => .inr (by have := HI.out.lo z hz; omega)), ?_, ?_, ?_, ?_⟩
        · have h9 := hW5.mod0 m6
          rw [HX9.out, HWJ.out] at h9
          exact h9
        · rw [eOk_succ, hb', HQ.out, HX9.out, HWJ.out]
        · intro z hz
          rcases hG5.new z hz with h | h
          · exact HI.out.lo z h
          · have h1 := HI.out.m.size
            have h3 : wr.drew.heap.size = wr.heap.size := rfl
            have := HI.out.lo wb HI.out.ww.here
            have := HI.out.ww.lt wb HI.out.ww.here
            omega
        · intro e
          rcases hG5.new g1 e with h | h
          · exact HI.out.n1 h
          · have h1 := HI.out.a1.lt
            have h3 : wr.drew.heap.size = wr.heap.size := rfl
            omega
        · intro e
          rcases hG5.new g2 e with h | h
          · exact HI.out.n2 h
          · have h1 := HI.out.a2.lt
            have h3 : wr.drew.heap.size = wr.heap.size := rfl
            omega))
      clear hI hwj u0 u1 hx9 hq
      go_wp2
      cases q with
      | true =>
        have HZ := Lib.hid (show (0 : Int) = (numL x (wj : Nat)).headD 0 by rw [(fit_yes HQ.out.symm).1]; rfl)
        first
          | (go_region_held3 (fun w' => w'.cell? ⟨g1, j, none⟩ = some (.int .i64 x) ∧ w'.cell? ⟨g2, j, none⟩ = some (.int .i64 wj))
              (first | exact KS.out | exact KSM.out _ (by assumption))
              (first | (go_at_call 67; (with_reducible refine NM.out.mono ?_); rintro e w5 ⟨v, E, F', rfl, hF, hW5, hG5⟩; have mF := hG5.mod) | (go_at_call 62; (with_reducible refine (code_of _ _ _ _ hF 0 HZ.out HL.out).mono ?_); rintro e w6 ⟨rfl, m6⟩; have mG := mF.trans m6.nil)))
          | fail
        have FIN := Lib.hid (NEXT.out _ _ F' bb (by rw [Bool.and_true]; exact HI.out.ok) hW5 hG5 m6)
        clear hF hW5 hG5 mF mG m6
        go_wp2
        go_roundw
        case rel => exact ⟨j + 1, F', bb, by omega, rfl, by go_num, FIN.out⟩
        case measure => simp [intOf]; omega
      | false =>
        have HZ := Lib.hid (show (1 : Int) = (numL x (wj : Nat)).headD 0 by rw [(fit_no HQ.out.symm).1]; rfl)
        have k0 := KS.out.1
        have k1 := KS.out.2
        first
          | (go_region_with (first | (go_at_call 67; (with_reducible refine NM.out.mono ?_); rintro e w5 ⟨v, E, F', rfl, hF, hW5, hG5⟩; have mF := hG5.mod) | (go_at_call 62; (with_reducible refine (code_of _ _ _ _ hF 1 HZ.out HL.out).mono ?_); rintro e w6 ⟨rfl, m6⟩; have mG := mF.trans m6.nil)))
          | fail
        all_goals
          have FIN := Lib.hid (NEXT.out _ _ F' true (by rw [Bool.and_false]; rfl) hW5 hG5 m6)
          clear hF hW5 hG5 mF mG m6
          go_wp2
          go_roundw
          case rel => exact ⟨j + 1, F', true, by omega, rfl, by go_num, FIN.out⟩
          case measure => simp [intOf]; omega
    · have hlt' : decide ((j : Int) < 9) = false := decide_eq_false (by omega)
      have J9 := Lib.hid (show j = 9 by omega)
      have BY := Lib.hid (rwbytes_calls wr wb (eB c j) F hI.ww)
      have M9 := Lib.hid hI.m
      have HO := Lib.hid hI.ok
      clear hlt hj hI
      cases bb with
      | false =>
        have D := Lib.hid (enc_ok9 J9.out (by have := HO.out; simpa using this))
        go_wp2_with fail
        refine BY.out.mono ?_
        rintro e w5 ⟨rfl, rfl⟩
        go_wp2
        go_ret2
        exact ⟨by rw [D.out.1, D.out.2]; rfl, M9.out⟩
      | true =>
        have D := Lib.hid (enc_bad9 J9.out (by have := HO.out; simpa using this))
        go_wp2
        go_ret2
        exact ⟨by rw [D.out.1, D.out.2]; rfl, M9.out⟩
end Go.Proofs.YtijjbkkcienfgaaDoor.Fg
namespace Go.Proofs.YtijjbkkcienfgaaDoor.Fg
open Go.RowKit Rf
set_option linter.unusedVariables false
set_option linter.unusedSimpArgs false
attribute [local go_sem ↓] Go.wp_at_zero Go.wp_at_succ

/-- A log that a law is given. -/
structure LogA (W : World) (p : Option Addr) (n : Nat) (f : Nat → ByteArray) : Prop where
  ex : 0 < n → ∃ b off, p = some ⟨b, off, none⟩ ∧ ∀ i, i < n → W.cell? ⟨b, off + i, none⟩ = some (.string (f i))
theorem LogA.at' {W w : World} {p : Option Addr} {n : Nat} {f : Nat → ByteArray} (h : LogA W p n f) (m : Mod [] W w) {i : Nat} (hi : i < n) : ∃ b off, p = some ⟨b, off, none⟩ ∧ w.cell? ⟨b, off + i, none⟩ = some (.string (f i)) := by
  obtain ⟨b, off, e, hc⟩ := h.ex (by omega)
  exact ⟨b, off, e, m.cell' (hc i hi) (by simp)⟩
theorem LogA.mod {W w : World} {p : Option Addr} {n : Nat} {f : Nat → ByteArray} (h : LogA W p n f) (m : Mod [] W w) : LogA w p n f :=
  ⟨fun hn => by
    obtain ⟨b, off, e, hc⟩ := h.ex hn
    exact ⟨b, off, e, fun i hi => m.cell' (hc i hi) (by simp)⟩⟩
theorem put9_new (w : World) (T : TypeId) (c : CmdT) : Arr (put9 (w.alloc (.cells #[.int .i64 0, .int .i64 0, .int .i64 0, .int .i64 0, .int .i64 0, .int .i64 0, .int .i64 0, .int .i64 0, .int .i64 0] T)) w.heap.size c) w.heap.size T 9 c.f ∧ Mod [] w (put9 (w.alloc (.cells #[.int .i64 0, .int .i64 0, .int .i64 0, .int .i64 0, .int .i64 0, .int .i64 0, .int .i64 0, .int .i64 0, .int .i64 0] T)) w.heap.size c) :=
  ⟨put9_arr (cmd_new w T zCmd) c, ((Mod.refl _ _).alloc _).fresh (put9_mod _ _ _) (fun z hz => .inr (by have := List.mem_singleton.1 hz; omega))⟩
def ReplayP (w : World) (f : Nat → ByteArray) (n : Nat) (e : Ending) (w' : World) : Prop := ∃ sv bT bB mB v, e = .returned (.pointer (some ⟨sv, 0, none⟩)) ∧ LawS w w' w.heap.size sv bT bB mB v (rpl f n)
set_option maxRecDepth 100000 in
set_option maxHeartbeats 8000000 in
theorem replay_calls (w : World) (p : Option Addr) (n cap : Nat) (f : Nat → ByteArray) (hW : Whole w) (hK : Kd w) (hA : LogA w p n f) (hn : n ≤ cap) (hcap : cap ≤ 9223372036854775807) (hf : ∀ i, i < n → (f i).size ≤ 1000000) :
    Calls Tryd.prog 31 #[.slice p n cap] w (ReplayP w f n) := by
  have C1 := Lib.hid (new_calls w hW)
  have HK := Lib.hid hK
  have hl : 1 < w.heap.size := World.block_lt_of_cell? w _ hW.1
  have HA := Lib.hid hA
  have HF := Lib.hid hf
  clear hK hW hA hf
  go_enter Tryd.func31, Tryd.ntmps31
  go_wp2_with fail
  refine C1.out.mono ?_
  rintro e w1 ⟨sv, bT, bB, mB, rfl, s1, m1⟩
  have L1 := Lib.hid (show LawS w w1 w.heap.size sv bT bB mB (.slice none 0 0) (rpl f 0) from ⟨s1, HK.out.mod m1 (by simp), m1, Nat.le_refl _, hl⟩)
  clear s1 m1 HK C1
  go_wp2
  go_loopw [11] (fun i wr => ∃ (k : Nat) (v : Value), k ≤ n ∧ i = .int .i64 k ∧ LawS w wr w.heap.size sv bT bB mB v (rpl f k)) (fun i _ => n - (intOf i).toNat)
  case atStart => exact ⟨0, _, Nat.zero_le _, rfl, L1.out⟩
  case round =>
    obtain ⟨k, v, hk, rfl, hI⟩ := hrel
    clear L1
    by_cases hlt : k < n
    · have i0 : (0 : Int) ≤ (k : Int) := by omega
      have i1 : (k : Int) < (n : Int) := by omega
      obtain ⟨b, off, rfl, y0⟩ := HA.out.at' hI.m hlt
      have DC := decode_calls wr (f k) (HF.out k hlt)
      unfold DecP at DC
      obtain ⟨C, hC⟩ : ∃ C, C = decC (f k) := ⟨_, rfl⟩
      obtain ⟨E, hE⟩ : ∃ E, E = decE (f k) := ⟨_, rfl⟩
      rw [← hC, ← hE] at DC
      have DC := Lib.hid DC
      have HI := Lib.hid hI
      have HC := Lib.hid hC
      have HE := Lib.hid hE
      clear hI hC hE
      go_wp2_with fail
      refine DC.out.mono ?_
      rintro e w2 ⟨rfl, m2⟩
      have P9 := put9_new w2 37 C
      have T9 := Lib.hid (arr_there (cmd_new w2 37 zCmd))
      have M2 := Lib.hid m2
      have P9 := Lib.hid P9
      clear m2 DC
      by_cases h0 : E = 0
      · have e0 : (E == 0) = true := by simpa using h0
        have R := Lib.hid (show rpl f (k + 1) = ((rpl f k).Do C).1 by
          show (if decE (f k) = 0 then ((rpl f k).Do (decC (f k))).1 else rpl f k) = _
          rw [← HE.out, ← HC.out, if_pos h0])
        clear h0
        go_wp2_with (refine store9 w2.heap.size C.k C.c C.q C.n C.l C.a C.b C.m C.o rfl _ _ rfl rfl rfl T9.out ?_; intro w9 hw9; have HW9 := Lib.hid (show w9 = put9 (w2.alloc (.cells #[.int .i64 0, .int .i64 0, .int .i64 0, .int .i64 0, .int .i64 0, .int .i64 0, .int .i64 0, .int .i64 0, .int .i64 0] 37)) w2.heap.size C from hw9); clear hw9; have A9 : Arr w9 w2.heap.size 37 9 C.f := (by rw [HW9.out]; exact P9.out.1); have M9 : Hid (Mod [] w2 w9) := (Lib.hid (by rw [HW9.out]; exact P9.out.2)); obtain ⟨c0, c1, c2, c3, c4, c5, c6, c7, c8⟩ := cell9 A9; clear A9)
        have DO := Lib.hid (doL_calls w w9 w.heap.size sv bT bB mB v (rpl f k) C (HI.out.mod0 (M2.out.trans M9.out)))
        go_wp2_with fail
        refine DO.out.mono ?_
        rintro e w3 ⟨gp, gc, rp, rc, dp, dc, v', rfl, o1, o2, o3, s3, hv, m3⟩
        rw [← R.out] at s3
        have S3 := Lib.hid s3
        clear o1 o2 o3 s3 hv m3 DO c0 c1 c2 c3 c4 c5 c6 c7 c8
        go_wp2
        go_roundw
        case rel => exact ⟨k + 1, v', by omega, by go_num, S3.out⟩
        case measure => simp [intOf]; omega
      · have e0 : (E == 0) = false := by simpa using h0
        have R := Lib.hid (show rpl f (k + 1) = rpl f k by
          show (if decE (f k) = 0 then ((rpl f k).Do (decC (f k))).1 else rpl f k) = _
          rw [← HE.out, if_neg h0])
        clear h0
        go_wp2_with (refine store9 w2.heap.size C.k C.c C.q C.n C.l C.a C.b C.m C.o rfl _ _ rfl rfl rfl T9.out ?_; intro w9 hw9; have HW9 := Lib.hid (show w9 = put9 (w2.alloc (.cells #[.int .i64 0, .int .i64 0, .int .i64 0, .int .i64 0, .int .i64 0, .int .i64 0, .int .i64 0, .int .i64 0, .int .i64 0] 37)) w2.heap.size C from hw9); clear hw9; have M9 : Hid (Mod [] w2 w9) := (Lib.hid (by rw [HW9.out]; exact P9.out.2)))
        have S3 := Lib.hid (HI.out.mod0 (M2.out.trans M9.out))
        go_roundw
        case rel => exact ⟨k + 1, v, by omega, by go_num, by rw [R.out]; exact S3.out⟩
        case measure => simp [intOf]; omega
    · obtain rfl : k = n := by omega
      have hlt' : decide ((k : Int) < (k : Int)) = false := by simp
      have HI := Lib.hid hI
      clear hI
      go_wp2
      go_ret
      exact ⟨_, _, _, _, _, rfl, HI.out⟩
def RReplayP (w : World) (X : List Nat) (f : Nat → ByteArray) (n : Nat) (e : Ending) (w' : World) : Prop :=
  ∃ rs rT rB gT gS gD cap gy cy rv, e = .returned (.pointer (some ⟨rs, 0, none⟩)) ∧ RSv w' X w.heap.size rs rT rB gT gS gD cap gy cy rv (rpl f n) ∧ Mod [] w w'
set_option maxRecDepth 100000 in
set_option maxHeartbeats 8000000 in
theorem rreplay_calls (w : World) (X : List Nat) (hX : ∀ z, z ∈ X → z < w.heap.size) (p : Option Addr) (n cap : Nat) (f : Nat → ByteArray) (hA : LogA w p n f) (hn : n ≤ cap) (hcap : cap ≤ 9223372036854775807) (hf : ∀ i, i < n → (f i).size ≤ 1000000) :
    Calls Tryd.prog 32 #[.slice p n cap] w (RReplayP w X f n) := by
  have C1 := Lib.hid (rnew_calls w X w.heap.size hX (Nat.le_refl _))
  have HA := Lib.hid hA
  have HF := Lib.hid hf
  have HX := Lib.hid hX
  clear hA hf hX
  go_enter Tryd.func32, Tryd.ntmps32
  go_wp2_with fail
  refine C1.out.mono ?_
  rintro e w1 ⟨sv, rT, bB, gT, gS, gD, cap2, gy, cy, rfl, s1, m1⟩
  have L1 := Lib.hid (And.intro (show RSv w1 X w.heap.size sv rT bB gT gS gD cap2 gy cy (.slice none 0 0) (rpl f 0) from s1) m1)
  clear s1 m1 C1
  go_wp2
  go_loopw [4] (fun i wr => ∃ (k : Nat) (v : Value), k ≤ n ∧ i = .int .i64 k ∧ RSv wr X w.heap.size sv rT bB gT gS gD cap2 gy cy v (rpl f k) ∧ Mod [] w wr) (fun i _ => n - (intOf i).toNat)
  case atStart => exact ⟨0, _, Nat.zero_le _, rfl, L1.out.1, L1.out.2⟩
  case round =>
    obtain ⟨k, v, hk, rfl, hI, hM⟩ := hrel
    clear L1
    by_cases hlt : k < n
    · have i0 : (0 : Int) ≤ (k : Int) := by omega
      have i1 : (k : Int) < (n : Int) := by omega
      obtain ⟨b, off, rfl, y0⟩ := HA.out.at' hM hlt
      have DC := rdecode_calls wr (f k) (HF.out k hlt)
      unfold RDecP at DC
      obtain ⟨C, hC⟩ : ∃ C, C = decC (f k) := ⟨_, rfl⟩
      obtain ⟨E, hE⟩ : ∃ E, E = decE (f k) := ⟨_, rfl⟩
      rw [← hC, ← hE] at DC
      have DC := Lib.hid DC
      have HI := Lib.hid hI
      have HM := Lib.hid hM
      have HC := Lib.hid hC
      have HE := Lib.hid hE
      clear hI hC hE hM
      go_wp2_with fail
      refine DC.out.mono ?_
      rintro e w2 ⟨rfl, m2⟩
      have P9 := put9_new w2 59 C
      have T9 := Lib.hid (arr_there (cmd_new w2 59 zCmd))
      have M2 := Lib.hid m2
      have P9 := Lib.hid P9
      clear m2 DC
      by_cases h0 : E = 0
      · have e0 : (E == 0) = true := by simpa using h0
        have R := Lib.hid (show rpl f (k + 1) = ((rpl f k).Do C).1 by
          show (if decE (f k) = 0 then ((rpl f k).Do (decC (f k))).1 else rpl f k) = _
          rw [← HE.out, ← HC.out, if_pos h0])
        clear h0
        go_wp2_with (refine rstore9 w2.heap.size C.k C.c C.q C.n C.l C.a C.b C.m C.o rfl _ _ rfl rfl rfl T9.out ?_; intro w9 hw9; have HW9 := Lib.hid (show w9 = put9 (w2.alloc (.cells #[.int .i64 0, .int .i64 0, .int .i64 0, .int .i64 0, .int .i64 0, .int .i64 0, .int .i64 0, .int .i64 0, .int .i64 0] 59)) w2.heap.size C from hw9); clear hw9; have A9 : Arr w9 w2.heap.size 59 9 C.f := (by rw [HW9.out]; exact P9.out.1); have M9 : Hid (Mod [] w2 w9) := (Lib.hid (by rw [HW9.out]; exact P9.out.2)); obtain ⟨c0, c1, c2, c3, c4, c5, c6, c7, c8⟩ := cell9 A9; clear A9)
        have DO := (rdo_calls w9 X w.heap.size sv rT bB gT gS gD cap2 gy cy v (rpl f k) C (HI.out.mod0 (M2.out.trans M9.out)) (fun z hz => by have := HX.out z hz; have := ((HM.out.trans M2.out).trans M9.out).size; omega))
        unfold CmdT.arr at DO
        have DO := Lib.hid DO
        go_wp2_with fail
        refine DO.out.mono ?_
        rintro e w3 ⟨gv, rv, dv, v', rfl, o1, o2, o3, s3, m3⟩
        rw [← R.out] at s3
        have ap := HI.out.ap
        have FM := Lib.hid (((HM.out.trans M2.out).trans M9.out).fresh m3 (fun z hz => .inr (ap z hz).2) : Mod [] w w3)
        have S3 := Lib.hid s3
        clear o1 o2 o3 s3 m3 ap DO c0 c1 c2 c3 c4 c5 c6 c7 c8
        go_wp2
        go_roundw
        case rel => exact ⟨k + 1, v', by omega, by go_num, S3.out, FM.out⟩
        case measure => simp [intOf]; omega
      · have e0 : (E == 0) = false := by simpa using h0
        have R := Lib.hid (show rpl f (k + 1) = rpl f k by
          show (if decE (f k) = 0 then ((rpl f k).Do (decC (f k))).1 else rpl f k) = _
          rw [← HE.out, if_neg h0])
        clear h0
        go_wp2_with (refine rstore9 w2.heap.size C.k C.c C.q C.n C.l C.a C.b C.m C.o rfl _ _ rfl rfl rfl T9.out ?_; intro w9 hw9; have HW9 := Lib.hid (show w9 = put9 (w2.alloc (.cells #[.int .i64 0, .int .i64 0, .int .i64 0, .int .i64 0, .int .i64 0, .int .i64 0, .int .i64 0, .int .i64 0, .int .i64 0] 59)) w2.heap.size C from hw9); clear hw9; have M9 : Hid (Mod [] w2 w9) := (Lib.hid (by rw [HW9.out]; exact P9.out.2)))
        have S3 := Lib.hid (HI.out.mod0 (M2.out.trans M9.out))
        have FM := Lib.hid ((HM.out.trans M2.out).trans M9.out)
        go_roundw
        case rel => exact ⟨k + 1, v, by omega, by go_num, by rw [R.out]; exact S3.out, FM.out⟩
        case measure => simp [intOf]; omega
    · obtain rfl : k = n := by omega
      have hlt' : decide ((k : Int) < (k : Int)) = false := by simp
      have HI := Lib.hid (And.intro hI hM)
      clear hI hM
      go_wp2
      go_ret
      exact ⟨_, _, _, _, _, _, _, _, _, _, rfl, HI.out.1, HI.out.2⟩
end Go.Proofs.YtijjbkkcienfgaaDoor.Fg
