/- What Put of a table of holds (package span) comes to. No condition beyond what stands in it. -/
import Derived.Test.YtijjbkkcienfgaaDoorSpan6
import Derived.Deep.RegionHeld2
namespace Go.Proofs.YtijjbkkcienfgaaDoor
open Go.RowKit
set_option linter.unusedVariables false
set_option linter.unusedSimpArgs false
attribute [local go_sem ↓] Go.wp_at_zero Go.wp_at_succ

theorem own_slice {w : World} {base e size n : Nat} {v : Value} {xs : List Value} (h : w.ownsRow base e size v n xs) : ∃ p cap, v = .slice p n cap := by
  obtain ⟨_, h2 | ⟨g, cap, cur, rfl, _⟩⟩ := h
  · exact ⟨none, 0, by rw [h2.1, h2.2]⟩
  · exact ⟨_, _, rfl⟩

theorem Mod.setCellsAt {S : List Nat} {w0 : World} {b : Nat} (hb : b ∈ S ∨ w0.heap.size ≤ b) : ∀ (vs : List Value) (o : Nat) (w : World), Mod S w0 w → Mod S w0 (w.setCells b o vs)
  | [], _, w, h => h
  | v :: r, o, w, h => by
    rw [World.setCells]
    exact Mod.setCellsAt hb r (o + 1) _ (h.setCell hb v)
theorem there_new (w : World) (c : Array Value) (t : TypeId) (n : Nat) (hn : n ≤ c.size) : (w.alloc (.cells c t)).there w.heap.size 0 n := fun j hj => by
  have h := Arr.new' w c t c.size (fun i => c.getD i undef) rfl (fun i hi => by simp [hi])
  exact ⟨by rw [Nat.zero_add, h.cell j (by omega)]; rfl, by rw [Nat.zero_add]; exact h.free j⟩

def upT (t : Nat → Nat → Nat) (a b c m : Int) : Nat → Nat → Nat := setT t c a b (fun x => max x m.toNat)
theorem upT_other (t : Nat → Nat → Nat) (a b : Int) (ck : Nat) (m : Int) {d : Nat} (hd : d ≠ ck) (j : Nat) : upT t a b ck m d j = t d j := by
  unfold upT setT setN
  split
  · show (if d = (ck : Int).toNat ∧ _ then _ else _) = _
    rw [Int.toNat_natCast, if_neg (fun h => hd h.1)]
  · rfl
def putE (t : Nat → Nat → Nat) (a b c m : Int) : Int :=
  if inC8 c = false then 1 else if m ≠ 1 ∧ m ≠ 2 then 1 else if a < 0 then 71 else if b ≤ a then 71 else if 256 < b then 71 else
  if 0 < (someL t a b (pAg c m)).length then 150 else if 256 < (listL (upT t a b c m)).length then 2 else 0
def putT (t : Nat → Nat → Nat) (a b c m : Int) : Nat → Nat → Nat := if putE t a b c m = 0 then upT t a b c m else t
def PutP (w : World) (bT : Nat) (t : Nat → Nat → Nat) (a b c m : Int) (e : Ending) (w' : World) : Prop :=
  e = .returned (.int .i64 (putE t a b c m)) ∧ Tb w' bT (putT t a b c m) ∧ Mod [bT] w w'



set_option maxRecDepth 100000 in
set_option maxHeartbeats 4000000 in
theorem spPut_calls (w : World) (bT : Nat) (t : Nat → Nat → Nat) (a b c m : Int) (hT : Tb w bT t) (hW : Whole w) (hb0 : bT ≠ 1) :
    Calls Tryd.prog 134 #[.pointer (some ⟨bT, 0, none⟩), .agg #[.int .i64 a, .int .i64 b, .int .i64 c, .int .i64 m]] w (PutP w bT t a b c m) := by
  have H := spClient_calls (w.alloc (.cells #[.int .i64 a, .int .i64 b, .int .i64 c, .int .i64 m] 39)) c
  by_cases hc : inC8 c = false
  · have E := Lib.hid (show putE t a b c m = 1 by simp [putE, hc])
    rw [hc] at H
    have H' := Lib.hid H
    clear H hc
    have HT := Lib.hid (hT.mod ((Mod.refl [] w).alloc (.cells #[.int .i64 a, .int .i64 b, .int .i64 c, .int .i64 m] 39)) (by simp))
    have ET := Lib.hid (show putT t a b c m = t by unfold putT; rw [E.out, if_neg (by decide)])
    clear hT
    go_enter Tryd.func134, Tryd.ntmps134
    go_wp2_with (go_at_call 142; refine H'.out.mono ?_; rintro e w' ⟨rfl, rfl⟩)
    go_ret
    exact ⟨by rw [E.out]; rfl, by rw [ET.out]; exact HT.out, (Mod.refl _ _).alloc _⟩
  have hc' : inC8 c = true := by simpa using hc
  rw [hc'] at H
  have H' := Lib.hid H
  clear H
  by_cases hm : m ≠ 1 ∧ m ≠ 2
  · have E := Lib.hid (show putE t a b c m = 1 by simp [putE, hc', hm])
    have d1 : (m != 1) = true := by simpa using hm.1
    have d2 : (m != 2) = true := by simpa using hm.2
    clear hc hc' hm
    have HT := Lib.hid (hT.mod ((Mod.refl [] w).alloc (.cells #[.int .i64 a, .int .i64 b, .int .i64 c, .int .i64 m] 39)) (by simp))
    have ET := Lib.hid (show putT t a b c m = t by unfold putT; rw [E.out, if_neg (by decide)])
    clear hT
    go_enter Tryd.func134, Tryd.ntmps134
    go_wp2_with (go_at_call 142; refine H'.out.mono ?_; rintro e w' ⟨rfl, rfl⟩)
    go_ret
    exact ⟨by rw [E.out]; rfl, by rw [ET.out]; exact HT.out, (Mod.refl _ _).alloc _⟩
  have hm12 : m = 1 ∨ m = 2 := by omega
  have E1 : putE t a b c m = if a < 0 then 71 else if b ≤ a then 71 else if 256 < b then 71 else if 0 < (someL t a b (pAg c m)).length then 150 else if 256 < (listL (upT t a b c m)).length then 2 else 0 := by
    unfold putE
    rw [if_neg hc, if_neg hm]
  clear hm
  by_cases ha : a < 0
  · have E := Lib.hid (show putE t a b c m = 71 by rw [E1, if_pos ha])
    clear hc hc' E1
    have HT := Lib.hid (hT.mod ((Mod.refl [] w).alloc (.cells #[.int .i64 a, .int .i64 b, .int .i64 c, .int .i64 m] 39)) (by simp))
    have ET := Lib.hid (show putT t a b c m = t by unfold putT; rw [E.out, if_neg (by decide)])
    clear hT
    rcases hm12 with rfl | rfl
    all_goals
      go_enter Tryd.func134, Tryd.ntmps134
      go_wp2_with (go_at_call 142; refine H'.out.mono ?_; rintro e w' ⟨rfl, rfl⟩)
      go_ret
      exact ⟨by rw [E.out]; rfl, by rw [ET.out]; exact HT.out, (Mod.refl _ _).alloc _⟩
  by_cases hba : b ≤ a
  · have E := Lib.hid (show putE t a b c m = 71 by rw [E1, if_neg ha, if_pos hba])
    have d0 : decide (a < 0) = false := by simpa using ha
    clear hc hc' E1 ha
    have HT := Lib.hid (hT.mod ((Mod.refl [] w).alloc (.cells #[.int .i64 a, .int .i64 b, .int .i64 c, .int .i64 m] 39)) (by simp))
    have ET := Lib.hid (show putT t a b c m = t by unfold putT; rw [E.out, if_neg (by decide)])
    clear hT
    rcases hm12 with rfl | rfl
    all_goals
      go_enter Tryd.func134, Tryd.ntmps134
      go_wp2_with (go_at_call 142; refine H'.out.mono ?_; rintro e w' ⟨rfl, rfl⟩)
      go_ret
      exact ⟨by rw [E.out]; rfl, by rw [ET.out]; exact HT.out, (Mod.refl _ _).alloc _⟩
  by_cases hb : 256 < b
  · have E := Lib.hid (show putE t a b c m = 71 by rw [E1, if_neg ha, if_neg hba, if_pos hb])
    have d0 : decide (a < 0) = false := by simpa using ha
    have d1 : decide (b ≤ a) = false := by simpa using hba
    clear hc hc' E1 ha hba
    have HT := Lib.hid (hT.mod ((Mod.refl [] w).alloc (.cells #[.int .i64 a, .int .i64 b, .int .i64 c, .int .i64 m] 39)) (by simp))
    have ET := Lib.hid (show putT t a b c m = t by unfold putT; rw [E.out, if_neg (by decide)])
    clear hT
    rcases hm12 with rfl | rfl
    all_goals
      go_enter Tryd.func134, Tryd.ntmps134
      go_wp2_with (go_at_call 142; refine H'.out.mono ?_; rintro e w' ⟨rfl, rfl⟩)
      go_ret
      exact ⟨by rw [E.out]; rfl, by rw [ET.out]; exact HT.out, (Mod.refl _ _).alloc _⟩
  rw [if_neg ha, if_neg hba, if_neg hb] at E1
  have d0 : decide (a < 0) = false := by simpa using ha
  have d1 : decide (b ≤ a) = false := by simpa using hba
  have d2 : decide (256 < b) = false := by simpa using hb
  have hc8 := hc'
  simp [inC8] at hc8
  obtain ⟨ck, rfl, hck⟩ : ∃ ck : Nat, c = ck ∧ ck < 8 := ⟨c.toNat, by omega, by omega⟩
  have i0 : (0 : Int) ≤ (ck : Int) := by omega
  have i1 : (ck : Int) < 8 := by omega
  have hl := hT.lt
  have hA := hT.mod ((Mod.refl [] w).alloc (.cells #[.int .i64 a, .int .i64 b, .int .i64 ck, .int .i64 m] 39)) (by simp)
  have C0 := spAgainst_calls _ bT t a b ck m hA
  obtain ⟨n, hn⟩ : ∃ n, (someL t a b (pAg ck m)).length = n := ⟨_, rfl⟩
  rw [hn] at E1
  have C1 := C0.mono (R' := fun e w' => ∃ p cap, e = .returned (.slice p n cap) ∧ Mod [] (w.alloc (.cells #[.int .i64 a, .int .i64 b, .int .i64 ck, .int .i64 m] 39)) w') (by
    rintro e w' ⟨v, rfl, ho, hm⟩
    rw [hn] at ho
    obtain ⟨p, cap, rfl⟩ := own_slice ho
    exact ⟨p, cap, rfl, hm⟩)
  have CA := Lib.hid C1
  have k0 : (w.alloc (.cells #[.int .i64 a, .int .i64 b, .int .i64 ck, .int .i64 m] 39)).cell? ⟨w.heap.size, 0, none⟩ = some (.int .i64 a) := by simp
  have k1 : (w.alloc (.cells #[.int .i64 a, .int .i64 b, .int .i64 ck, .int .i64 m] 39)).cell? ⟨w.heap.size, 1, none⟩ = some (.int .i64 b) := by simp
  have k2 : (w.alloc (.cells #[.int .i64 a, .int .i64 b, .int .i64 ck, .int .i64 m] 39)).cell? ⟨w.heap.size, 2, none⟩ = some (.int .i64 ck) := by simp
  have k3 : (w.alloc (.cells #[.int .i64 a, .int .i64 b, .int .i64 ck, .int .i64 m] 39)).cell? ⟨w.heap.size, 3, none⟩ = some (.int .i64 m) := by simp
  have K := Lib.hid (And.intro k0 (And.intro k1 (And.intro k2 k3)))
  have HT := Lib.hid hA
  have HE1 := Lib.hid E1
  have HW := Lib.hid hW
  have HB := Lib.hid hT.bd
  clear C0 C1 k0 k1 k2 k3 hT hA E1 hW hc hc' ha hba hb hc8 hn
  by_cases hn1 : 0 < n
  · have E := Lib.hid (show putE t a b ck m = 150 by rw [HE1.out, if_pos hn1])
    have ET := Lib.hid (show putT t a b ck m = t by unfold putT; rw [E.out, if_neg (by decide)])
    rcases hm12 with rfl | rfl
    all_goals
      go_enter Tryd.func134, Tryd.ntmps134
      go_wp2_with (first
        | (go_at_call 142; refine H'.out.mono ?_; rintro e w' ⟨rfl, rfl⟩)
        | (go_at_call 118; refine CA.out.mono ?_; rintro e w2 ⟨p, cap, rfl, m2⟩))
      go_ret
      exact ⟨by rw [E.out]; rfl, by rw [ET.out]; exact HT.out.mod m2 (by simp), (((Mod.refl _ _).alloc _).trans m2).nil⟩
  · obtain rfl : n = 0 := by omega
    have hz := (zero_of_info (P := Tryd.prog) info_row).1
    have hmm : m = (m.toNat : Int) := by omega
    have hm2 : m.toNat ≤ 2 := by omega
    have HE2 := Lib.hid (show putE t a b ck m = if 256 < (listL (upT t a b ck m)).length then 2 else 0 by rw [HE1.out, if_neg hn1])
    have HMM := Lib.hid (And.intro hmm hm2)
    clear HE1 hn1 hmm hm2
    obtain ⟨n2, hn2⟩ : ∃ n2, (listL (upT t a b ck m)).length = n2 := ⟨_, rfl⟩
    rw [hn2] at HE2
    have HN2 := Lib.hid hn2
    clear hn2
    obtain ⟨cs, hcs⟩ : ∃ cs, rowOf t ck = cs := ⟨_, rfl⟩
    have HCS := Lib.hid hcs
    rcases hm12 with rfl | rfl
    · go_enter Tryd.func134, Tryd.ntmps134
      go_wp2_with (first
        | (go_at_call 142; refine H'.out.mono ?_; rintro e w' ⟨rfl, rfl⟩)
        | (go_at_call 118; refine CA.out.mono ?_; rintro e w2 ⟨p, cap, rfl, m2⟩; have q0 := m2.cell' K.out.1 (by simp); have q1 := m2.cell' K.out.2.1 (by simp); have q2 := m2.cell' K.out.2.2.1 (by simp); have q3 := m2.cell' K.out.2.2.2 (by simp)))
      have T2 := HT.out.mod m2 (by simp)
      have hl2 : w.heap.size < w2.heap.size := by have := m2.size; simp at this; omega
      have hi : (Tryd.prog.info? 145).map (·.size) = some cs.length := by rw [← HCS.out, rowOf_len]; exact (zero_of_info (P := Tryd.prog) info_row).2
      have hcl : cs.length = 256 := by rw [← HCS.out, rowOf_len]
      have hrg := (⟨T2.arr.drew, T2.bd⟩ : Tb w2.drew bT t).range ck hck
      rw [HCS.out] at hrg
      have hu := Tryd.underlying145
      have hcs1 : ∀ v ∈ cs, v.oneCell' = true := by rw [← HCS.out]; simp [rowOf, Value.oneCell']
      have hth : (w2.alloc (.cells zRow 145)).drew.there w2.heap.size 0 cs.length := (World.there_drew _ _ _ _).2 (there_new w2 zRow _ _ (by rw [hcl]; simp [zRow]))
      have mm1 : Mod [] w2.drew (w2.alloc (.cells zRow 145)).drew := ((Mod.refl [] w2.drew).alloc (.cells zRow 145))
      have mm2 : Mod [] w2.drew ((w2.alloc (.cells zRow 145)).drew.setCells w2.heap.size 0 cs) := Mod.setCellsAt (.inr (Nat.le_refl _)) cs 0 _ mm1
      have c1 : (w2.alloc (.cells zRow 145)).drew.cell? ⟨w.heap.size, 2, none⟩ = some (.int .i64 ck) := mm1.cell' (by simpa using q2) (by simp)
      have c2 : ((w2.alloc (.cells zRow 145)).drew.setCells w2.heap.size 0 cs).cell? ⟨w.heap.size, 2, none⟩ = some (.int .i64 ck) := mm2.cell' (by simpa using q2) (by simp)
      have g1 : (w2.alloc (.cells zRow 145)).drew.rangeAt bT (ck * 256) cs := fun j v hv => mm1.cell' (hrg j v hv) (by simp)
      have g2 : ((w2.alloc (.cells zRow 145)).drew.setCells w2.heap.size 0 cs).rangeAt bT (ck * 256) cs := fun j v hv => mm2.cell' (hrg j v hv) (by simp)
      have Q := Lib.hid (And.intro (And.intro c1 g1) (And.intro c2 g2))
      have nsz : w2.heap.size < ((w2.alloc (.cells zRow 145)).drew.setCells w2.heap.size 0 cs).heap.size := by
        have := (Mod.setCellsAt (S := [w2.heap.size]) (b := w2.heap.size) (.inl (by simp)) cs 0 _ (Mod.refl _ ((w2.alloc (.cells zRow 145)).drew))).size
        simp at this; omega
      have F := Lib.hid (And.intro mm2 (And.intro (World.rangeAt_setCells_same _ w2.heap.size 0 cs hth) nsz))
      have T3 := Lib.hid T2
      have M2 := Lib.hid m2
      have HRG := Lib.hid hrg
      clear T2 m2 hcs c1 c2 g1 g2 mm1 mm2 hrg nsz
      go_region_held2 (fun w' => w'.cell? ⟨w.heap.size, 2, none⟩ = some (.int .i64 ck) ∧ w'.rangeAt bT (ck * 256) cs)
        (first
          | exact ⟨by simpa using q2, HRG.out⟩
          | exact Q.out.1
          | exact Q.out.2) (fail)
      have F' := F.out
      clear F
      revert F'
      generalize (w2.alloc (.cells zRow 145)).drew.setCells w2.heap.size 0 cs = w3
      rintro ⟨n1, n2', n3⟩
      have M3 : Mod [] w2 w3 := (Mod.refl [] w2).drew.trans n1
      have p0 := M3.cell' q0 (by simp)
      have p1 := M3.cell' q1 (by simp)
      have p2 := M3.cell' q2 (by simp)
      have p3 := M3.cell' q3 (by simp)
      have T4 := T3.out.mod M3 (by simp)
      have M4 := M2.out.trans M3
      have s3 := M3.size
      have hz3 : 0 < w.heap.size := by omega
      have CS := Lib.hid (set_calls w3 bT 143 #[.pointer (some ⟨w.heap.size, 0, none⟩)] t ck a b (fun x => max x (Int.toNat 1)) T4 (fun x hx => by have := HMM.out.2; omega) (enters_of Tryd.func143 (by kernel_rfl) rfl)
        (fun x w' hx md => put1_calls w' w.heap.size _ x hx HMM.out.2 (by rw [← HMM.out.1]; exact md.cell' p3 (by simp; omega))))
      clear hth q0 q1 q2 q3
      by_cases hn2 : 256 < n2
      · have hn2' : (256 : Int) < (n2 : Int) := by omega
        have E := Lib.hid (show putE t a b ck 1 = 2 by rw [HE2.out, if_pos hn2])
        have ET := Lib.hid (show putT t a b ck 1 = t by unfold putT; rw [E.out, if_neg (by decide)])
        have P4 := Lib.hid M4
        have R3 := Lib.hid n2'
        clear M3 M4 n1 n2'
        go_wp2_with (first
          | (go_at_call 137; refine CS.out.mono ?_; rintro e w4 ⟨rfl, hT4, m4⟩)
          | (go_at_call 38; refine (spList_calls w4 bT _ hT4 ?_).mono ?_; (exact ((HW.out.mod ((Mod.refl [] w).alloc _) (by simp)).mod P4.out (by simp)).mod m4 (by simp; omega)); rintro e w5 ⟨v, rfl, ho, m5⟩; obtain ⟨p9, cap9, e9⟩ := own_slice ho; have e10 : v = .slice p9 n2 cap9 := e9.trans (congrArg (fun n => Value.slice p9 n cap9) HN2.out); clear e9 ho; subst e10; have p2 := m5.cell' (m4.cell' p2 (by simp; omega)) (by simp)))
        have T5 : Tb w5 bT (upT t a b ck 1) := hT4.mod m5 (by simp)
        have D5 := (⟨T5.arr.drew, T5.bd⟩ : Tb w5.drew bT (upT t a b ck 1))
        have g5 : w5.drew.rangeAt w2.heap.size 0 cs := (World.rangeAt_drew _ _ _ _).2 (fun j v hv => m5.cell' (m4.cell' (R3.out j v hv) (by simp; omega)) (by simp))
        have t5 : w5.drew.there bT (ck * 256) cs.length := fun j hj => ⟨by rw [D5.cell ck j hck (by omega)]; rfl, D5.arr.free _⟩
        have c5 : w5.drew.cell? ⟨w.heap.size, 2, none⟩ = some (.int .i64 ck) := by simpa using p2
        have M6 : Mod [bT] w5.drew (w5.drew.setCells bT (ck * 256) cs) := Mod.setCellsAt (.inl (by simp)) cs _ _ (Mod.refl _ _)
        have c6 := M6.cell' c5 (by simp; omega)
        have g6 : (w5.drew.setCells bT (ck * 256) cs).rangeAt w2.heap.size 0 cs := fun j v hv => M6.cell' (g5 j v hv) (by simp; omega)
        have t6 := World.there_setCells t5 bT (ck * 256) cs
        have Q5 := Lib.hid (And.intro (And.intro c5 (And.intro g5 t5)) (And.intro c6 (And.intro g6 t6)))
        have B6 := Tb.back D5 ck hck (t := t) (fun d j hd => upT_other t a b ck _ hd j) HB.out
        rw [HCS.out] at B6
        have FIN := Lib.hid (And.intro B6 ((((((Mod.refl _ w).alloc _).trans P4.out).nil.trans m4).trans m5.nil).drew.trans M6))
        clear T5 D5 g5 t5 c5 c6 g6 t6 M6 B6 hT4
        go_region_held2 (fun w' => w'.cell? ⟨w.heap.size, 2, none⟩ = some (.int .i64 ck) ∧ w'.rangeAt w2.heap.size 0 cs ∧ w'.there bT (ck * 256) cs.length)
          (first
            | exact Q5.out.1
            | exact Q5.out.2) (fail)
        go_wp2
        refine bodyPost_ret (results_tmp rfl _ _ _) rfl ?_
        exact ⟨by rw [E.out]; rfl, by rw [ET.out]; exact FIN.out.1, FIN.out.2⟩
      · have hn2' : decide (256 < n2) = false := by simpa using hn2
        have hn3 : decide ((256 : Int) < (n2 : Int)) = false := by simp; omega
        have E := Lib.hid (show putE t a b ck 1 = 0 by rw [HE2.out, if_neg hn2])
        have ET := Lib.hid (show putT t a b ck 1 = upT t a b ck 1 by unfold putT; rw [E.out, if_pos rfl])
        have P4 := Lib.hid M4
        clear M3 M4 n1 n2'
        go_wp2_with (first
          | (go_at_call 137; refine CS.out.mono ?_; rintro e w4 ⟨rfl, hT4, m4⟩)
          | (go_at_call 38; refine (spList_calls w4 bT _ hT4 ?_).mono ?_; (exact ((HW.out.mod ((Mod.refl [] w).alloc _) (by simp)).mod P4.out (by simp)).mod m4 (by simp; omega)); rintro e w5 ⟨v, rfl, ho, m5⟩; obtain ⟨p9, cap9, e9⟩ := own_slice ho; have e10 : v = .slice p9 n2 cap9 := e9.trans (congrArg (fun n => Value.slice p9 n cap9) HN2.out); clear e9 ho; subst e10))
        go_ret
        exact ⟨by rw [E.out]; rfl, by rw [ET.out]; exact hT4.mod m5 (by simp), ((((Mod.refl _ w).alloc _).trans P4.out).nil.trans m4).trans m5.nil⟩
    · go_enter Tryd.func134, Tryd.ntmps134
      go_wp2_with (first
        | (go_at_call 142; refine H'.out.mono ?_; rintro e w' ⟨rfl, rfl⟩)
        | (go_at_call 118; refine CA.out.mono ?_; rintro e w2 ⟨p, cap, rfl, m2⟩; have q0 := m2.cell' K.out.1 (by simp); have q1 := m2.cell' K.out.2.1 (by simp); have q2 := m2.cell' K.out.2.2.1 (by simp); have q3 := m2.cell' K.out.2.2.2 (by simp)))
      have T2 := HT.out.mod m2 (by simp)
      have hl2 : w.heap.size < w2.heap.size := by have := m2.size; simp at this; omega
      have hi : (Tryd.prog.info? 145).map (·.size) = some cs.length := by rw [← HCS.out, rowOf_len]; exact (zero_of_info (P := Tryd.prog) info_row).2
      have hcl : cs.length = 256 := by rw [← HCS.out, rowOf_len]
      have hrg := (⟨T2.arr.drew, T2.bd⟩ : Tb w2.drew bT t).range ck hck
      rw [HCS.out] at hrg
      have hu := Tryd.underlying145
      have hcs1 : ∀ v ∈ cs, v.oneCell' = true := by rw [← HCS.out]; simp [rowOf, Value.oneCell']
      have hth : (w2.alloc (.cells zRow 145)).drew.there w2.heap.size 0 cs.length := (World.there_drew _ _ _ _).2 (there_new w2 zRow _ _ (by rw [hcl]; simp [zRow]))
      have mm1 : Mod [] w2.drew (w2.alloc (.cells zRow 145)).drew := ((Mod.refl [] w2.drew).alloc (.cells zRow 145))
      have mm2 : Mod [] w2.drew ((w2.alloc (.cells zRow 145)).drew.setCells w2.heap.size 0 cs) := Mod.setCellsAt (.inr (Nat.le_refl _)) cs 0 _ mm1
      have c1 : (w2.alloc (.cells zRow 145)).drew.cell? ⟨w.heap.size, 2, none⟩ = some (.int .i64 ck) := mm1.cell' (by simpa using q2) (by simp)
      have c2 : ((w2.alloc (.cells zRow 145)).drew.setCells w2.heap.size 0 cs).cell? ⟨w.heap.size, 2, none⟩ = some (.int .i64 ck) := mm2.cell' (by simpa using q2) (by simp)
      have g1 : (w2.alloc (.cells zRow 145)).drew.rangeAt bT (ck * 256) cs := fun j v hv => mm1.cell' (hrg j v hv) (by simp)
      have g2 : ((w2.alloc (.cells zRow 145)).drew.setCells w2.heap.size 0 cs).rangeAt bT (ck * 256) cs := fun j v hv => mm2.cell' (hrg j v hv) (by simp)
      have Q := Lib.hid (And.intro (And.intro c1 g1) (And.intro c2 g2))
      have nsz : w2.heap.size < ((w2.alloc (.cells zRow 145)).drew.setCells w2.heap.size 0 cs).heap.size := by
        have := (Mod.setCellsAt (S := [w2.heap.size]) (b := w2.heap.size) (.inl (by simp)) cs 0 _ (Mod.refl _ ((w2.alloc (.cells zRow 145)).drew))).size
        simp at this; omega
      have F := Lib.hid (And.intro mm2 (And.intro (World.rangeAt_setCells_same _ w2.heap.size 0 cs hth) nsz))
      have T3 := Lib.hid T2
      have M2 := Lib.hid m2
      have HRG := Lib.hid hrg
      clear T2 m2 hcs c1 c2 g1 g2 mm1 mm2 hrg nsz
      go_region_held2 (fun w' => w'.cell? ⟨w.heap.size, 2, none⟩ = some (.int .i64 ck) ∧ w'.rangeAt bT (ck * 256) cs)
        (first
          | exact ⟨by simpa using q2, HRG.out⟩
          | exact Q.out.1
          | exact Q.out.2) (fail)
      have F' := F.out
      clear F
      revert F'
      generalize (w2.alloc (.cells zRow 145)).drew.setCells w2.heap.size 0 cs = w3
      rintro ⟨n1, n2', n3⟩
      have M3 : Mod [] w2 w3 := (Mod.refl [] w2).drew.trans n1
      have p0 := M3.cell' q0 (by simp)
      have p1 := M3.cell' q1 (by simp)
      have p2 := M3.cell' q2 (by simp)
      have p3 := M3.cell' q3 (by simp)
      have T4 := T3.out.mod M3 (by simp)
      have M4 := M2.out.trans M3
      have s3 := M3.size
      have hz3 : 0 < w.heap.size := by omega
      have CS := Lib.hid (set_calls w3 bT 143 #[.pointer (some ⟨w.heap.size, 0, none⟩)] t ck a b (fun x => max x (Int.toNat 2)) T4 (fun x hx => by have := HMM.out.2; omega) (enters_of Tryd.func143 (by kernel_rfl) rfl)
        (fun x w' hx md => put1_calls w' w.heap.size _ x hx HMM.out.2 (by rw [← HMM.out.1]; exact md.cell' p3 (by simp; omega))))
      clear hth q0 q1 q2 q3
      by_cases hn2 : 256 < n2
      · have hn2' : (256 : Int) < (n2 : Int) := by omega
        have E := Lib.hid (show putE t a b ck 2 = 2 by rw [HE2.out, if_pos hn2])
        have ET := Lib.hid (show putT t a b ck 2 = t by unfold putT; rw [E.out, if_neg (by decide)])
        have P4 := Lib.hid M4
        have R3 := Lib.hid n2'
        clear M3 M4 n1 n2'
        go_wp2_with (first
          | (go_at_call 137; refine CS.out.mono ?_; rintro e w4 ⟨rfl, hT4, m4⟩)
          | (go_at_call 38; refine (spList_calls w4 bT _ hT4 ?_).mono ?_; (exact ((HW.out.mod ((Mod.refl [] w).alloc _) (by simp)).mod P4.out (by simp)).mod m4 (by simp; omega)); rintro e w5 ⟨v, rfl, ho, m5⟩; obtain ⟨p9, cap9, e9⟩ := own_slice ho; have e10 : v = .slice p9 n2 cap9 := e9.trans (congrArg (fun n => Value.slice p9 n cap9) HN2.out); clear e9 ho; subst e10; have p2 := m5.cell' (m4.cell' p2 (by simp; omega)) (by simp)))
        have T5 : Tb w5 bT (upT t a b ck 2) := hT4.mod m5 (by simp)
        have D5 := (⟨T5.arr.drew, T5.bd⟩ : Tb w5.drew bT (upT t a b ck 2))
        have g5 : w5.drew.rangeAt w2.heap.size 0 cs := (World.rangeAt_drew _ _ _ _).2 (fun j v hv => m5.cell' (m4.cell' (R3.out j v hv) (by simp; omega)) (by simp))
        have t5 : w5.drew.there bT (ck * 256) cs.length := fun j hj => ⟨by rw [D5.cell ck j hck (by omega)]; rfl, D5.arr.free _⟩
        have c5 : w5.drew.cell? ⟨w.heap.size, 2, none⟩ = some (.int .i64 ck) := by simpa using p2
        have M6 : Mod [bT] w5.drew (w5.drew.setCells bT (ck * 256) cs) := Mod.setCellsAt (.inl (by simp)) cs _ _ (Mod.refl _ _)
        have c6 := M6.cell' c5 (by simp; omega)
        have g6 : (w5.drew.setCells bT (ck * 256) cs).rangeAt w2.heap.size 0 cs := fun j v hv => M6.cell' (g5 j v hv) (by simp; omega)
        have t6 := World.there_setCells t5 bT (ck * 256) cs
        have Q5 := Lib.hid (And.intro (And.intro c5 (And.intro g5 t5)) (And.intro c6 (And.intro g6 t6)))
        have B6 := Tb.back D5 ck hck (t := t) (fun d j hd => upT_other t a b ck _ hd j) HB.out
        rw [HCS.out] at B6
        have FIN := Lib.hid (And.intro B6 ((((((Mod.refl _ w).alloc _).trans P4.out).nil.trans m4).trans m5.nil).drew.trans M6))
        clear T5 D5 g5 t5 c5 c6 g6 t6 M6 B6 hT4
        go_region_held2 (fun w' => w'.cell? ⟨w.heap.size, 2, none⟩ = some (.int .i64 ck) ∧ w'.rangeAt w2.heap.size 0 cs ∧ w'.there bT (ck * 256) cs.length)
          (first
            | exact Q5.out.1
            | exact Q5.out.2) (fail)
        go_wp2
        refine bodyPost_ret (results_tmp rfl _ _ _) rfl ?_
        exact ⟨by rw [E.out]; rfl, by rw [ET.out]; exact FIN.out.1, FIN.out.2⟩
      · have hn2' : decide (256 < n2) = false := by simpa using hn2
        have hn3 : decide ((256 : Int) < (n2 : Int)) = false := by simp; omega
        have E := Lib.hid (show putE t a b ck 2 = 0 by rw [HE2.out, if_neg hn2])
        have ET := Lib.hid (show putT t a b ck 2 = upT t a b ck 2 by unfold putT; rw [E.out, if_pos rfl])
        have P4 := Lib.hid M4
        clear M3 M4 n1 n2'
        go_wp2_with (first
          | (go_at_call 137; refine CS.out.mono ?_; rintro e w4 ⟨rfl, hT4, m4⟩)
          | (go_at_call 38; refine (spList_calls w4 bT _ hT4 ?_).mono ?_; (exact ((HW.out.mod ((Mod.refl [] w).alloc _) (by simp)).mod P4.out (by simp)).mod m4 (by simp; omega)); rintro e w5 ⟨v, rfl, ho, m5⟩; obtain ⟨p9, cap9, e9⟩ := own_slice ho; have e10 : v = .slice p9 n2 cap9 := e9.trans (congrArg (fun n => Value.slice p9 n cap9) HN2.out); clear e9 ho; subst e10))
        go_ret
        exact ⟨by rw [E.out]; rfl, by rw [ET.out]; exact hT4.mod m5 (by simp), ((((Mod.refl _ w).alloc _).trans P4.out).nil.trans m4).trans m5.nil⟩
end Go.Proofs.YtijjbkkcienfgaaDoor
