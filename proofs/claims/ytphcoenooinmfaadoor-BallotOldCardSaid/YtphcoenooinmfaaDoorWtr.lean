/- Package field's writer, and the document's: what their calls come to. Premise of the contracts: the writer's bytes lie in memory of its own. -/
import Derived.Test.YtphcoenooinmfaaDoorErrs
import Derived.Test.YtphcoenooinmfaaDoorFldP
namespace Go.Proofs.YtphcoenooinmfaaDoor
open Go.RowKit
set_option linter.unusedVariables false
set_option linter.unusedSimpArgs false

/-- append(v, s...) of a text onto a row of bytes of one's own. -/
theorem run_app_str {P : Program} (w : World) (base : Nat) (t u ty e : TypeId) (i : TypeInfo) (ht : P.underlying t = some (.slice e)) (hu : P.underlying u = some .string) (hi : P.info? e = some i) (hz : i.zero = some (.int .u8 0))
    (hsize : i.size = 1) (hby : i.bytes = 1)
    (v : Value) (n : Nat) (xs : List Value) (hown : w.ownsRow base e 1 v n xs) (s : ByteArray)
    (h63 : n + s.size ≤ maxLen) (hbytes : n + s.size ≤ 140737488355328) (hbase : base ≤ w.heap.size) :
    ∃ v' w', (Builtin.append_ #[t, u] ty #[v, .string s]).run P w = .ok v' w' ∧ w'.ownsRow base e 1 v' (n + s.size) (xs ++ Lib.strCells s) ∧ Mod v.ownBlock.toList w w' ∧
      (v'.ownBlock = v.ownBlock ∨ v'.ownBlock = some w.heap.size) := by
  obtain ⟨hxl, ho⟩ := hown
  have hown : w.ownsRow base e 1 v n xs := ⟨hxl, ho⟩
  rcases ho with ⟨rfl, rfl⟩ | ⟨g, cap, cur, rfl, hbg, hg, hnc, hcm, hcs, htake⟩
  · obtain rfl : xs = [] := List.eq_nil_of_length_eq_zero (by simpa using hxl)
    obtain ⟨v', w', hr, ho', hgr, hnil⟩ := Lib.run_append_own_string (P := P) w w.heap.size t u ty e i ht hu hi hz hsize hby (.slice none 0 0) 0 [] (own_nil _ _ _ _) s h63 hbytes (Nat.le_refl _)
    refine ⟨v', w', hr, own_base ho' hbase, mod_grown hgr, ?_⟩
    have hsz := World.grownBy.size hgr
    by_cases hs : s.size = 0
    · left
      rw [hnil.2 ⟨rfl, hs⟩]
    · right
      -- the block is new
      have hr2 := Lib.run_append_own_string (P := P) w w.heap.size t u ty e i ht hu hi hz hsize hby (.slice none 0 0) 0 [] (own_nil _ _ _ _) s h63 hbytes (Nat.le_refl _)
      have hn := run_append_nil_string (P := P) w t u ty e i (.int .u8 0) ht hu hi hz s (by omega) (by unfold maxLen at h63; omega) (by rw [hby]; omega)
      rw [hn] at hr
      injection hr with hv _
      rw [← hv]
      rfl
  · by_cases hroom : n + s.size ≤ cap
    · obtain ⟨v', w', hr, ho', hgr, _⟩ := Lib.run_append_own_string (P := P) w base t u ty e i ht hu hi hz hsize hby _ n xs hown s h63 hbytes hbase
      refine ⟨v', w', hr, ho', mod_grown hgr, .inl ?_⟩
      have hn := Lib.run_append_room_string (P := P) w t u ty e i ht hu hi hsize g n cap cur hg s hroom (by omega)
      rw [hn] at hr
      injection hr with hv _
      rw [← hv]
      rfl
    · obtain ⟨v', w', hr, ho', hgr, _⟩ := Lib.run_append_own_string (P := P) w base t u ty e i ht hu hi hz hsize hby _ n xs hown s h63 hbytes hbase
      refine ⟨v', w', hr, ho', mod_grown hgr, .inr ?_⟩
      have holds : ∀ j u, xs[j]? = some u → w.cell? ((⟨g, 0, none⟩ : Addr).add j) = some u := hown.cells (g := g) rfl
      have hn := Lib.run_append_grow_string (P := P) w t u ty e i (.int .u8 0) ht hu hi hz ⟨g, 0, none⟩ n cap xs (by rw [hsize]; simpa using hxl) holds s (by omega) (by unfold maxLen at h63; omega) (by rw [hby]; exact growslice_fits (by omega) (by omega))
      rw [hn] at hr
      injection hr with hv _
      rw [← hv]
      rfl
theorem appS {P : Program} {ops : Array Oper} {rest : List Oper} {o : Oper} {a : Act} {Q : Exit → Act → World → Prop} {w : World} (base : Nat) (T u e : TypeId)
    (hT : P.underlying T = some (.slice e)) (hu : P.underlying u = some .string) (hinfo : (P.info? e).map (fun i => (i.zero, i.size, i.bytes)) = some (some (.int .u8 0), 1, 1))
    (hgd : o.guard = none) (s x : Operand) (ho : o.op = .call { callee := .builtin .append, args := #[s, x], argTypes := #[T, u] })
    (v : Value) (n : Nat) (xs : List Value) (hs : a.eval s = v) (hown : w.ownsRow base e 1 v n xs) (str : ByteArray) (hx : a.eval x = .string str)
    (hn : n ≤ 1000000) (hl : str.size ≤ 1000000) (hbase : base ≤ w.heap.size)
    (h : ∀ v' w', w'.ownsRow base e 1 v' (n + str.size) (xs ++ Lib.strCells str) → Mod v.ownBlock.toList w w' → (v'.ownBlock = v.ownBlock ∨ v'.ownBlock = some w.heap.size) →
      wpList P ops Q rest (a.put o.dst v') w') : wpList P ops Q (o :: rest) a w := by
  obtain ⟨i, hi, hz, hs', hb⟩ := info_parts hinfo
  refine wpList_plain hgd fun K hK => ?_
  obtain ⟨v', w', hr, h2, h3, h4⟩ := run_app_str (P := P) w base T u o.type e i hT hu hi hz hs' hb v n xs hown str (by unfold maxLen; omega) (by omega) hbase
  unfold Oper.wp execOp
  simp only [ho, resolve, invoke, builtin, Sem.run_bind, Sem.run_pure, Result.andThen_ok, List.map_toArray, List.map_cons, List.map_nil, hs, hx, hr]
  exact hK _ _ (h v' w' h2 h3 h4)

/-- What a call on an object has changed: blocks of F alone; behind it the object's blocks are F'. -/
structure Grow (F F' : List Nat) (w w' : World) : Prop where
  mod : Mod F w w'
  new : ∀ x, x ∈ F' → x ∈ F ∨ w.heap.size ≤ x
theorem Grow.refl (F : List Nat) (w : World) : Grow F F w w := ⟨Mod.refl _ _, fun _ h => .inl h⟩
theorem Grow.trans {F F' F'' : List Nat} {w w' w'' : World} (h : Grow F F' w w') (k : Grow F' F'' w' w'') : Grow F F'' w w'' :=
  ⟨h.mod.fresh k.mod h.new, fun x hx => by
    rcases k.new x hx with h1 | h1
    · exact h.new x h1
    · exact .inr (Nat.le_trans h.mod.size h1)⟩
theorem Grow.of_mod {F : List Nat} {w w' : World} (m : Mod [] w w') : Grow F F w w' := ⟨m.nil, fun _ h => .inl h⟩
theorem Grow.dj {F F' G : List Nat} {w w' : World} (h : Grow F F' w w') (hd : ∀ x, x ∈ F → x ∉ G) (hl : ∀ x, x ∈ G → x < w.heap.size) : ∀ x, x ∈ F' → x ∉ G := by
  intro x hx hg
  rcases h.new x hx with h1 | h1
  · exact hd x h1 hg
  · have := hl x hg; omega
theorem Grow.lo {F F' : List Nat} {w w' : World} {B : Nat} (h : Grow F F' w w') (hB : B ≤ w.heap.size) (hl : ∀ x, x ∈ F → B ≤ x) : ∀ x, x ∈ F' → B ≤ x := by
  intro x hx
  rcases h.new x hx with h1 | h1
  · exact hl x h1
  · omega

/-- A writer (of type T) at b has the bytes bs; all that is its own lies in the blocks F. -/
structure Wtr (w : World) (T b : Nat) (bs : List UInt8) (F : List Nat) : Prop where
  ex : ∃ v, Arr w b T 1 (fun _ => v) ∧ w.ownsRow 0 5 1 v bs.length (bs.map u8V) ∧ ∀ g, v.ownBlock = some g → g ∈ F ∧ g ≠ b
  here : b ∈ F
  lt : ∀ x, x ∈ F → x < w.heap.size
theorem Wtr.mod {S : List Nat} {w w' : World} {T b : Nat} {bs : List UInt8} {F : List Nat} (h : Wtr w T b bs F) (m : Mod S w w') (hd : ∀ x, x ∈ F → x ∉ S) : Wtr w' T b bs F := by
  obtain ⟨v, hA, ho, hg⟩ := h.ex
  exact ⟨⟨v, hA.mod m (hd b h.here), own_mod ho m (fun k hk => hd k (hg k hk).1), hg⟩, h.here, fun x hx => Nat.lt_of_lt_of_le (h.lt x hx) m.size⟩
theorem Wtr.mod0 {w w' : World} {T b : Nat} {bs : List UInt8} {F : List Nat} (h : Wtr w T b bs F) (m : Mod [] w w') : Wtr w' T b bs F := h.mod m (by simp)
theorem Wtr.new (w : World) (T : Nat) : Wtr (w.alloc (.cells #[.slice none 0 0] T)) T w.heap.size [] [w.heap.size] := by
  refine ⟨⟨.slice none 0 0, Arr.new' w _ _ 1 _ rfl (fun i hi => by simp [show i = 0 by omega]), own_nil _ _ _ _, fun g hg => by simp [Value.ownBlock] at hg⟩, by simp, fun x hx => by simp at hx; subst hx; simp⟩
/-- Behind an append and its store. -/
theorem Wtr.stored {w w2 : World} {T b : Nat} {bs bs' : List UInt8} {F : List Nat} {v v' : Value} {n' : Nat} {xs : List Value} (h : Wtr w T b bs F) (hA : Arr w b T 1 (fun _ => v)) (hg : ∀ g, v.ownBlock = some g → g ∈ F ∧ g ≠ b)
    (m : Mod v.ownBlock.toList w w2) (ho : w2.ownsRow 0 5 1 v' n' xs) (en : n' = bs'.length) (ex : xs = bs'.map u8V) (hv : ∀ g, v'.ownBlock = some g → v.ownBlock = some g ∨ w.heap.size ≤ g) :
    ∃ F', Wtr (w2.setCell ⟨b, 0, none⟩ v') T b bs' F' ∧ Grow F F' w (w2.setCell ⟨b, 0, none⟩ v') := by
  subst en
  subst ex
  have hb := h.lt b h.here
  have hbn : b ∉ v.ownBlock.toList := fun hx => (hg b (by simpa using hx)).2 rfl
  have hA2 := (hA.mod m hbn).set 0 v'
  have hvb : ∀ g, v'.ownBlock = some g → g ≠ b := by
    intro g hg'
    rcases hv g hg' with h1 | h1
    · exact (hg g h1).2
    · omega
  have ms : Mod [b] w2 (w2.setCell ⟨b, 0, none⟩ v') := (Mod.refl _ _).setCell (.inl (by simp)) _
  refine ⟨F ++ v'.ownBlock.toList, ⟨⟨v', hA2.congr fun i hi => by simp [show i = 0 by omega], own_mod ho ms (fun k hk => by simpa using hvb k hk), fun g hg' => ⟨by simp [hg'], hvb g hg'⟩⟩, by simp [h.here], fun x hx => ?_⟩, ⟨?_, fun x hx => ?_⟩⟩
  · simp only [List.mem_append] at hx
    rcases hx with hx | hx
    · have := h.lt x hx; have := m.size; simp; omega
    · have := own_lt' ho x (by simpa using hx); simpa using this.2
  · exact (m.mono fun x hx => (hg x (by simpa using hx)).1).setCell (.inl h.here) _
  · simp only [List.mem_append] at hx
    rcases hx with hx | hx
    · exact .inl hx
    · rcases hv x (by simpa using hx) with h1 | h1
      · exact .inl (hg x h1).1
      · exact .inr h1
theorem u8_info : (Tryd.prog.info? 5).map (fun i => (i.zero, i.size, i.bytes)) = some (some (.int .u8 0), 1, 1) := by kernel_rfl
/-- The bytes as a text. -/
theorem conv_bs (w : World) (v : Value) (bs : List UInt8) (ho : w.ownsRow 0 5 1 v bs.length (bs.map u8V)) :
    (convert 80 9 v).run Tryd.prog w = .ok (.string ⟨bs.toArray⟩) w := by
  rcases Nat.eq_zero_or_pos bs.length with h0 | h0
  · obtain rfl : bs = [] := List.eq_nil_of_length_eq_zero h0
    obtain ⟨A, cap, rfl, _, _, _⟩ := (own_slA ho).ex
    cases A with
    | none =>
      rw [run_convert_bytes_string w _ _ _ _ _ _ Tryd.underlying80 Tryd.underlying5 Tryd.underlying9]
      simp [Conv.bytesToString]
      rfl
    | some a => exact run_convert_bytes_back w 80 9 5 a cap [] Tryd.underlying80 Tryd.underlying5 Tryd.underlying9 (fun j hj => absurd hj (by simp))
  · obtain ⟨g, cap, rfl, _, _, _, hA⟩ := own_arr ho h0
    refine run_convert_bytes_back w 80 9 5 ⟨g, 0, none⟩ cap bs Tryd.underlying80 Tryd.underlying5 Tryd.underlying9 ?_
    intro j hj
    have e : (⟨g, 0, none⟩ : Addr).add j = ⟨g, j, none⟩ := by
      unfold Addr.add
      by_cases z : j = 0 <;> simp [z]
    rw [e, hA.cell j (by omega)]
    simp [List.getD_eq_getElem?_getD, List.getElem?_eq_getElem hj, u8V]

set_option maxRecDepth 100000 in
set_option maxHeartbeats 2000000 in
theorem put_calls (w : World) (b : Nat) (bs : List UInt8) (F : List Nat) (n k : Nat) (hW : Wtr w 144 b bs F) (hn : n < 9223372036854775808) (hk : k ≤ 8) (hl : bs.length ≤ 500000) :
    Calls Tryd.prog 72 #[.pointer (some ⟨b, 0, none⟩), .int .i64 n, .int .i64 k] w fun r w' => r = .returned (.tuple #[]) ∧ ∃ F', Wtr w' 144 b (bs ++ leB n k) F' ∧ Grow F F' w w' := by
  have HW := Lib.hid hW
  have HL := Lib.hid hl
  clear hW hl
  go_enter Tryd.func72, Tryd.ntmps72
  go_wp2
  go_loopw [1, 7] (fun x i wr => ∃ (j : Nat) (F' : List Nat), j ≤ k ∧ i = .int .i64 j ∧ x = .int .i64 ((n / 256 ^ j : Nat) : Int) ∧ Wtr wr 144 b (bs ++ leB n j) F' ∧ Grow F F' w wr) (fun _ i _ => k - (intOf i).toNat)
  case atStart => exact ⟨0, F, Nat.zero_le _, rfl, by simp, by rw [leB_zero, List.append_nil]; exact HW.out, Grow.refl _ _⟩
  case round =>
    obtain ⟨j, F', hj, rfl, rfl, hR, hG⟩ := hrel
    clear HW
    by_cases hlt : j < k
    · have i2 : (j : Int) < (k : Int) := by omega
      obtain ⟨v, hA, ho, hg⟩ := hR.ex
      have hlen : (bs ++ leB n j).length ≤ 600000 := by have := HL.out; simp [leB_length]; omega
      have HG := Lib.hid hG
      have HR := Lib.hid hR
      obtain ⟨nj, hnj⟩ : ∃ nj : Nat, nj = n / 256 ^ j := ⟨_, rfl⟩
      have hnj1 : nj < 9223372036854775808 := by rw [hnj]; exact Nat.lt_of_le_of_lt (Nat.div_le_self _ _) hn
      have hsuc : n / 256 ^ (j + 1) = nj / 256 := by rw [hnj, Nat.pow_succ, Nat.div_div_eq_div_mul]
      have hbl : bs ++ leB n (j + 1) = (bs ++ leB n j) ++ [UInt8.ofNat (nj % 256)] := by rw [leB_succ, hnj, List.append_assoc]
      have HS := Lib.hid hsuc
      have HBL := Lib.hid hbl
      rw [← hnj]
      obtain ⟨bj, hbj⟩ : ∃ bj, bj = bs ++ leB n j := ⟨_, rfl⟩
      have HBJ := Lib.hid hbj
      rw [← hbj] at ho hlen
      obtain ⟨w2, hw2⟩ : ∃ w2, w2 = wr.alloc (.cells #[.int .u8 ((nj : Int) % 256)] 5) := ⟨_, rfl⟩
      have m2 : Mod [] wr w2 := by rw [hw2]; exact (Mod.refl _ _).alloc _
      have cn : w2.cell? ⟨wr.heap.size, 0, none⟩ = some (.int .u8 ((nj : Int) % 256)) := by rw [hw2]; exact new_cell1 wr _ _ _ rfl
      have hA2 := hA.mod m2 (by simp)
      have ho2 := own_mod ho m2 (by simp)
      have c0 := hA.cell 0 (by omega)
      have hz2 : 0 ≤ w2.heap.size := Nat.zero_le _
      have hzz := m2.size
      have HA := Lib.hid hA
      have HA2 := Lib.hid hA2
      have HW2 := Lib.hid hw2
      have M2 := Lib.hid m2
      have HGG := Lib.hid hg
      clear hG hR hnj hsuc hbl hbj hw2 m2 hA hA2 ho hg
      go_wp2_with (
        at_builtin
        rw [← HW2.out]
        refine app1 0 80 5 (.int .u8 0) 1 1 Tryd.underlying80 u8_info rfl (by omega) (by omega) rfl _ _ rfl v _ _ rfl ho2 wr.heap.size [.int .u8 ((nj : Int) % 256)] rfl rfl (news1 cn) (by simp [Value.oneCell']) (by omega) (by omega) ?_
        intro ga cap w3 ho3 m3 hg3 hb3
        have hbn : b ∉ v.ownBlock.toList := fun hx => (HGG.out b (by simpa using hx)).2 rfl
        have hA3 := HA2.out.mod m3 hbn
        have c3 := hA3.cell 0 (by omega)
        have f3 := hA3.free 0
        have ST := Lib.hid ((HR.out.mod0 M2.out).stored HA2.out HGG.out m3 ho3 (bs' := bj ++ [UInt8.ofNat (nj % 256)]) (by simp) (by simp [u8_ofNat]) (fun g e => by
          simp only [Value.ownBlock, Option.map_some, Option.some.injEq] at e
          rcases hg3 with h1 | h1
          · left; rw [h1]; simp_all
          · right; omega))
        clear hA3 ho3 m3 ho2 cn hbn)
      go_roundw
      case rel =>
        obtain ⟨F2, hW2, hG2⟩ := ST.out
        exact ⟨j + 1, F2, by omega, by go_num, by rw [HS.out]; simp, by rw [HBL.out, ← HBJ.out]; exact hW2, HG.out.trans ((Grow.of_mod M2.out).trans hG2)⟩
      case measure => simp [intOf]; omega
    · have i2 : ¬ (j : Int) < (k : Int) := by omega
      obtain rfl : j = k := by omega
      have F9 := Lib.hid (And.intro hR hG)
      clear hR hG
      go_wp2
      go_end0
      exact ⟨rfl, F', F9.out.1, F9.out.2⟩
end Go.Proofs.YtphcoenooinmfaaDoor
