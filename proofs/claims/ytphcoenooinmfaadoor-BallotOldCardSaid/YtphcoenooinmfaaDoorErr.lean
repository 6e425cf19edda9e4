/- errors.As at two concrete targets, a *field.Fault's and an api.Errno's: nil, a hit, a miss; errors.Unwrap. Premise: the library's own variable of the type error is as its initialiser lays it. (Written by wip/tools/genErr.py, after the kit's worked example.) -/
import Derived.Test.YtphcoenooinmfaaDoorProg
import Derived.Test.YtphcoenooinmfaaDoorLib
import Derived.LaidEql
import Derived.Stop.Asserts
import Derived.RowKitTokens
namespace Go.Proofs.YtphcoenooinmfaaDoor
open Go.RowKit Go.Extern.Stop Go.Stop Go.Extern
set_option linter.unusedVariables false
set_option linter.unusedSimpArgs false

/-- The library's variable that holds the type error. -/
def ErrT (w : World) : Prop := w.cell? ⟨0, 0, none⟩ = some (.iface 176 (.agg #[.pointer (some ⟨2, 64, none⟩)]))
theorem ErrT.mod {S : List Nat} {w w' : World} (h : ErrT w) (m : Mod S w w') (h0 : 0 ∉ S) : ErrT w' := m.cell' h h0
theorem ErrT.lt {w : World} (h : ErrT w) : 0 < w.heap.size := World.block_lt_of_cell? w _ h
theorem as_nil (t : Value) (w : World) :
    Calls Tryd.prog 59 #[.nilIface, t] w fun e w' => e = .returned (.bool false) ∧ w' = w := by
  go_enter Tryd.func59, Tryd.ntmps59
  go_wp2
  go_ret
  exact ⟨rfl, rfl⟩
theorem rlm (z : Sem Value) (f : TypeId → Addr → Nat → Nat → Sem Value) (v : Value) :
    ReflectliteValue.method z f #[v] = (do match ← ReflectliteValue.parts v with | none => z | some (t, a, fl) => f t a fl (fl % 32)) := rfl
theorem rls (v x : Value) : ReflectliteValue.set #[v, x] = (do
    let (some (dst, a, fl), some (src, b, _)) := (← ReflectliteValue.parts v, ← ReflectliteValue.parts x)
      | unsupported (.noEntry "extern/(internal/reflectlite.Value).Set.zeroValue")
    if fl / ReflectliteValue.flagAddr % 2 == 0 then unsupported (.noEntry "extern/(internal/reflectlite.Value).Set.unaddressable")
    let val ← loadVar src b
    if ← Rtype.directlyAssignable dst src then storeVar dst a val
    else if ← Rtype.implements dst src then
      if (← Rtype.kind src) == 20 then
        match val with
        | .nilIface => unsupported (.noEntry "extern/reflectlite: a nil value of one interface type handed on as a value of another")
        | _ => storeVar dst a val
      else storeVar dst a (.iface src val)
    else panicString ("reflectlite.Set: value of type " ++ (← Rtype.spelt src) ++ " is not assignable to type " ++ (← Rtype.spelt dst))
    pure (.tuple #[])) := rfl
theorem mKind (h : Value) (w : World) : (Go.method 321 176 (.agg #[h]) "Kind").run Tryd.prog w = .ok (111, h) w := by kernel_rfl
theorem mElem (h : Value) (w : World) : (Go.method 321 176 (.agg #[h]) "Elem").run Tryd.prog w = .ok (123, .agg #[h]) w := by kernel_rfl
theorem mImplements (h : Value) (w : World) : (Go.method 321 176 (.agg #[h]) "Implements").run Tryd.prog w = .ok (124, .agg #[h]) w := by kernel_rfl
theorem mAssignableTo (h : Value) (w : World) : (Go.method 321 176 (.agg #[h]) "AssignableTo").run Tryd.prog w = .ok (121, .agg #[h]) w := by kernel_rfl

theorem valueOfPF (t : Addr) (w : World) : (ReflectliteValue.unpack (.iface 118 (.pointer (some t)))).run Tryd.prog w
    = .ok (.agg #[.pointer (some ⟨2, 118, none⟩), .pointer (some ⟨w.heap.size, 0, none⟩), .int .u64 150]) (w.alloc (.cells #[.pointer (some t)] 118)) := by kernel_rfl
theorem typePF (a : Addr) (w : World) : (ReflectliteValue.methodAny (ReflectliteValue.valueError "reflectlite.Value.Type" 0) (fun t _ _ _ => ReflectliteType.toType t) #[.agg #[.pointer (some ⟨2, 118, none⟩), .pointer (some a), .int .u64 150]]).run Tryd.prog w
    = .ok (.iface 176 (.agg #[.pointer (some ⟨2, 118, none⟩)])) w := by kernel_rfl
theorem kindPF (w : World) : ((ReflectliteType.abiMethod fun t => (fun a : Nat => Value.int IntKind.u8 (a : Int)) <$> Rtype.kind t) #[.pointer (some ⟨2, 118, none⟩)]).run Tryd.prog w = .ok (.int .u8 22) w := by kernel_rfl
theorem kindEF (w : World) : ((ReflectliteType.abiMethod fun t => (fun a : Nat => Value.int IntKind.u8 (a : Int)) <$> Rtype.kind t) #[.pointer (some ⟨2, 116, none⟩)]).run Tryd.prog w = .ok (.int .u8 22) w := by kernel_rfl
theorem partsPF (a : Addr) (w : World) : (ReflectliteValue.parts (.agg #[.pointer (some ⟨2, 118, none⟩), .pointer (some a), .int .u64 150])).run Tryd.prog w = .ok (some (118, a, 150)) w := by kernel_rfl
theorem isNilPF (a p : Addr) (W : World) (ha : W.cell? a = some (.pointer (some p))) :
    (ReflectliteValue.method (ReflectliteValue.valueError "reflectlite.Value.IsNil" 0) ReflectliteValue.isNil #[.agg #[.pointer (some ⟨2, 118, none⟩), .pointer (some a), .int .u64 150]]).run Tryd.prog W = .ok (.bool false) W := by
  rw [rlm]
  simp only [Sem.run_bind, partsPF, Result.andThen]
  simp [ReflectliteValue.isNil, loadVar, isAgg, underlying, Tryd.underlying118, ha, Result.andThen]
theorem elemPF (w : World) : (ReflectliteType.method ReflectliteType.elem #[.agg #[.pointer (some ⟨2, 118, none⟩)]]).run Tryd.prog w = .ok (.iface 176 (.agg #[.pointer (some ⟨2, 116, none⟩)])) w := by kernel_rfl
theorem implEF (w : World) : (ReflectliteType.relation "Implements" ReflectliteType.implements_ #[.agg #[.pointer (some ⟨2, 116, none⟩)], .iface 176 (.agg #[.pointer (some ⟨2, 64, none⟩)])]).run Tryd.prog w = .ok (.bool true) w := by kernel_rfl
theorem typeOfEF (v : Value) (w : World) : (ReflectliteType.typeOf #[.iface 116 v]).run Tryd.prog w = .ok (.iface 176 (.agg #[.pointer (some ⟨2, 116, none⟩)])) w := by kernel_rfl
theorem assignEF (w : World) : (ReflectliteType.relation "AssignableTo" ReflectliteType.assignableTo #[.agg #[.pointer (some ⟨2, 116, none⟩)], .iface 176 (.agg #[.pointer (some ⟨2, 116, none⟩)])]).run Tryd.prog w = .ok (.bool true) w := by kernel_rfl
theorem valueOfEF (e : Addr) (w : World) : (ReflectliteValue.unpack (.iface 116 (.pointer (some e)))).run Tryd.prog w
    = .ok (.agg #[.pointer (some ⟨2, 116, none⟩), .pointer (some ⟨w.heap.size, 0, none⟩), .int .u64 150]) (w.alloc (.cells #[.pointer (some e)] 116)) := by kernel_rfl
theorem elemOfPF (w : World) : (Rtype.elem? 118).run Tryd.prog w = .ok (some 116) w := by kernel_rfl
theorem mkEF (p : Addr) (w : World) : (ReflectliteValue.mk 116 p ReflectliteValue.flagAddr).run Tryd.prog w = .ok (.agg #[.pointer (some ⟨2, 116, none⟩), .pointer (some p), .int .u64 406]) w := by kernel_rfl
theorem elemVF (a p : Addr) (W : World) (ha : W.cell? a = some (.pointer (some p))) :
    (ReflectliteValue.method (ReflectliteValue.valueError "reflectlite.Value.Elem" 0) ReflectliteValue.elem #[.agg #[.pointer (some ⟨2, 118, none⟩), .pointer (some a), .int .u64 150]]).run Tryd.prog W
      = .ok (.agg #[.pointer (some ⟨2, 116, none⟩), .pointer (some p), .int .u64 406]) W := by
  rw [rlm]
  simp only [Sem.run_bind, partsPF, Result.andThen]
  simp [ReflectliteValue.elem, loadVar, isAgg, underlying, Tryd.underlying118, ha, Result.andThen, elemOfPF, mkEF]
theorem partsEaF (a : Addr) (w : World) : (ReflectliteValue.parts (.agg #[.pointer (some ⟨2, 116, none⟩), .pointer (some a), .int .u64 406])).run Tryd.prog w = .ok (some (116, a, 406)) w := by kernel_rfl
theorem partsEF (a : Addr) (w : World) : (ReflectliteValue.parts (.agg #[.pointer (some ⟨2, 116, none⟩), .pointer (some a), .int .u64 150])).run Tryd.prog w = .ok (some (116, a, 150)) w := by kernel_rfl
theorem directEF (w : World) : (Rtype.directlyAssignable 116 116).run Tryd.prog w = .ok true w := by kernel_rfl
theorem setEF (ta b : Addr) (e : Addr) (old : Value) (W : World) (hb : W.cell? b = some (.pointer (some e))) (ht : W.cell? ta = some old) (hf : W.frozen? ta = false) :
    (ReflectliteValue.set #[.agg #[.pointer (some ⟨2, 116, none⟩), .pointer (some ta), .int .u64 406], .agg #[.pointer (some ⟨2, 116, none⟩), .pointer (some b), .int .u64 150]]).run Tryd.prog W
      = .ok (.tuple #[]) (W.setCell ta (.pointer (some e))) := by
  rw [rls]
  simp only [Sem.run_bind, partsEaF, partsEF, Result.andThen]
  simp [ReflectliteValue.flagAddr, loadVar, isAgg, underlying, Tryd.underlying116, hb, Result.andThen, directEF, storeVar, Value.cells, storeCells, Addr.add]
  rw [run_store Tryd.prog W ta _ _ (by rfl)]
  simp [ht, hf]
set_option maxHeartbeats 4000000 in
theorem as_hitWF (e : Addr) (t : Addr) (old : Value) (w : World) (hg : ErrT w) (ht0 : w.cell? t = some old) (hf0 : w.frozen? t = false) :
    Calls Tryd.prog 59 #[.iface 116 (.pointer (some e)), .iface 118 (.pointer (some t))] w fun ev w' => ev = .returned (.bool true) ∧ w' = ((((w.alloc (.cells #[.pointer (some t)] 118)).alloc (.cells #[.pointer (some ⟨2, 118, none⟩), .pointer (some ⟨w.heap.size, 0, none⟩), .int .u64 150] 155)).alloc (.cells #[.pointer (some ⟨2, 118, none⟩), .pointer (some ⟨w.heap.size, 0, none⟩), .int .u64 150] 155)).alloc (.cells #[.pointer (some e)] 116)).setCell t (.pointer (some e)) := by
  have hVO := @run_callFunc_extern Tryd.prog 78 _ (fun args => ReflectliteValue.unpack (args.getD 0 (.tuple #[]))) Tryd.func78 (by kernel_rfl) (by kernel_rfl) (by kernel_rfl) (by kernel_rfl)
  have hTy := @run_callFunc_extern Tryd.prog 79 _ (ReflectliteValue.methodAny (ReflectliteValue.valueError "reflectlite.Value.Type" 0) (fun t _ _ _ => ReflectliteType.toType t)) Tryd.func79 (by kernel_rfl) (by kernel_rfl) (by kernel_rfl) (by kernel_rfl)
  have hNil := @run_callFunc_extern Tryd.prog 80 _ (ReflectliteValue.method (ReflectliteValue.valueError "reflectlite.Value.IsNil" 0) ReflectliteValue.isNil) Tryd.func80 (by kernel_rfl) (by kernel_rfl) (by kernel_rfl) (by kernel_rfl)
  have hK := @run_callFunc_extern Tryd.prog 111 _ (ReflectliteType.abiMethod fun t => do pure (.int .u8 (← Rtype.kind t))) Tryd.func111 (by kernel_rfl) (by kernel_rfl) (by kernel_rfl) (by kernel_rfl)
  have hRE := @run_callFunc_extern Tryd.prog 123 _ (ReflectliteType.method ReflectliteType.elem) Tryd.func123 (by kernel_rfl) (by kernel_rfl) (by kernel_rfl) (by kernel_rfl)
  have hRI := @run_callFunc_extern Tryd.prog 124 _ (ReflectliteType.relation "Implements" ReflectliteType.implements_) Tryd.func124 (by kernel_rfl) (by kernel_rfl) (by kernel_rfl) (by kernel_rfl)
  have hTO := @run_callFunc_extern Tryd.prog 89 _ ReflectliteType.typeOf Tryd.func89 (by kernel_rfl) (by kernel_rfl) (by kernel_rfl) (by kernel_rfl)
  have hRA := @run_callFunc_extern Tryd.prog 121 _ (ReflectliteType.relation "AssignableTo" ReflectliteType.assignableTo) Tryd.func121 (by kernel_rfl) (by kernel_rfl) (by kernel_rfl) (by kernel_rfl)
  have hEl := @run_callFunc_extern Tryd.prog 92 _ (ReflectliteValue.method (ReflectliteValue.valueError "reflectlite.Value.Elem" 0) ReflectliteValue.elem) Tryd.func92 (by kernel_rfl) (by kernel_rfl) (by kernel_rfl) (by kernel_rfl)
  have hSet := @run_callFunc_extern Tryd.prog 93 _ ReflectliteValue.set Tryd.func93 (by kernel_rfl) (by kernel_rfl) (by kernel_rfl) (by kernel_rfl)
  have zvalueOfPF := valueOfPF
  have ztypePF := typePF
  have zkindPF := kindPF
  have zkindEF := kindEF
  have zelemPF := elemPF
  have zimplEF := implEF
  have ztypeOfEF := typeOfEF
  have zassignEF := assignEF
  have zvalueOfEF := valueOfEF
  have zmKind := mKind
  have zmElem := mElem
  have zmImplements := mImplements
  have zmAssignableTo := mAssignableTo
  have hlt := hg.lt
  unfold ErrT at hg
  have n8 := isNilPF ⟨w.heap.size, 0, none⟩ t ((w.alloc (.cells #[.pointer (some t)] 118)).alloc (.cells #[.pointer (some ⟨2, 118, none⟩), .pointer (some ⟨w.heap.size, 0, none⟩), .int .u64 150] 155)) (by simp)
  have hg2 : ((w.alloc (.cells #[.pointer (some t)] 118)).alloc (.cells #[.pointer (some ⟨2, 118, none⟩), .pointer (some ⟨w.heap.size, 0, none⟩), .int .u64 150] 155)).cell? ⟨0, 0, none⟩ = some (.iface 176 (.agg #[.pointer (some ⟨2, 64, none⟩)])) := by
    rw [World.cell?_alloc_lt _ _ ⟨0, 0, none⟩ (by first | (simp; done) | (simp; omega)), World.cell?_alloc_lt _ _ ⟨0, 0, none⟩ hlt]; exact hg
  have htl : t.block < w.heap.size := World.block_lt_of_cell? w _ ht0
  have el := elemVF ⟨w.heap.size, 0, none⟩ t (((w.alloc (.cells #[.pointer (some t)] 118)).alloc (.cells #[.pointer (some ⟨2, 118, none⟩), .pointer (some ⟨w.heap.size, 0, none⟩), .int .u64 150] 155)).alloc (.cells #[.pointer (some ⟨2, 118, none⟩), .pointer (some ⟨w.heap.size, 0, none⟩), .int .u64 150] 155)) (by rw [World.cell?_alloc_lt _ _ ⟨w.heap.size, 0, none⟩ (by simp; omega)]; simp)
  have st := setEF t ⟨w.heap.size + 1 + 1 + 1, 0, none⟩ e old ((((w.alloc (.cells #[.pointer (some t)] 118)).alloc (.cells #[.pointer (some ⟨2, 118, none⟩), .pointer (some ⟨w.heap.size, 0, none⟩), .int .u64 150] 155)).alloc (.cells #[.pointer (some ⟨2, 118, none⟩), .pointer (some ⟨w.heap.size, 0, none⟩), .int .u64 150] 155)).alloc (.cells #[.pointer (some e)] 116))
    (by rw [World.cell?_alloc_at _ _ _ _ (by simp)]; rfl)
    (by rw [World.cell?_alloc_lt _ _ t (by simp; omega), World.cell?_alloc_lt _ _ t (by simp; omega), World.cell?_alloc_lt _ _ t (by simp; omega), World.cell?_alloc_lt _ _ t htl]; exact ht0)
    (by rw [World.frozen?_alloc_old _ _ t (by simp; omega), World.frozen?_alloc_old _ _ t (by simp; omega), World.frozen?_alloc_old _ _ t (by simp; omega), World.frozen?_alloc_old _ _ t (Nat.ne_of_lt htl)]; exact hf0)
  clear hg
  go_enter Tryd.func59, Tryd.ntmps59
  go_wp2
  refine wp_loop_rounds 1 ?_
  rw [rounds_succ]
  go_wp2
  go_ret
  exact ⟨rfl, rfl⟩
/-- A hit: the target's variable, alone in its block, is set. -/
theorem as_hitF (e : Addr) (b : Nat) (old : Value) (w : World) (hg : ErrT w) (hA : Arr w b 116 1 (fun _ => old)) :
    Calls Tryd.prog 59 #[.iface 116 (.pointer (some e)), .iface 118 (.pointer (some ⟨b, 0, none⟩))] w fun ev w' => ev = .returned (.bool true) ∧ Arr w' b 116 1 (fun _ => .pointer (some e)) ∧ Mod [b] w w' := by
  refine (as_hitWF e ⟨b, 0, none⟩ old w hg (hA.cell 0 (by omega)) (hA.free 0)).mono ?_
  rintro ev w' ⟨rfl, rfl⟩
  refine ⟨rfl, ((((((hA.alloc _).alloc _).alloc _).alloc _).set 0 _).congr fun i hi => ?_), (((((Mod.refl [b] w).alloc _).alloc _).alloc _).alloc _).setCell (.inl (by simp)) _⟩
  simp [show i = 0 by omega]
theorem valueOfPN (t : Addr) (w : World) : (ReflectliteValue.unpack (.iface 121 (.pointer (some t)))).run Tryd.prog w
    = .ok (.agg #[.pointer (some ⟨2, 121, none⟩), .pointer (some ⟨w.heap.size, 0, none⟩), .int .u64 150]) (w.alloc (.cells #[.pointer (some t)] 121)) := by kernel_rfl
theorem typePN (a : Addr) (w : World) : (ReflectliteValue.methodAny (ReflectliteValue.valueError "reflectlite.Value.Type" 0) (fun t _ _ _ => ReflectliteType.toType t) #[.agg #[.pointer (some ⟨2, 121, none⟩), .pointer (some a), .int .u64 150]]).run Tryd.prog w
    = .ok (.iface 176 (.agg #[.pointer (some ⟨2, 121, none⟩)])) w := by kernel_rfl
theorem kindPN (w : World) : ((ReflectliteType.abiMethod fun t => (fun a : Nat => Value.int IntKind.u8 (a : Int)) <$> Rtype.kind t) #[.pointer (some ⟨2, 121, none⟩)]).run Tryd.prog w = .ok (.int .u8 22) w := by kernel_rfl
theorem kindEN (w : World) : ((ReflectliteType.abiMethod fun t => (fun a : Nat => Value.int IntKind.u8 (a : Int)) <$> Rtype.kind t) #[.pointer (some ⟨2, 22, none⟩)]).run Tryd.prog w = .ok (.int .u8 2) w := by kernel_rfl
theorem partsPN (a : Addr) (w : World) : (ReflectliteValue.parts (.agg #[.pointer (some ⟨2, 121, none⟩), .pointer (some a), .int .u64 150])).run Tryd.prog w = .ok (some (121, a, 150)) w := by kernel_rfl
theorem isNilPN (a p : Addr) (W : World) (ha : W.cell? a = some (.pointer (some p))) :
    (ReflectliteValue.method (ReflectliteValue.valueError "reflectlite.Value.IsNil" 0) ReflectliteValue.isNil #[.agg #[.pointer (some ⟨2, 121, none⟩), .pointer (some a), .int .u64 150]]).run Tryd.prog W = .ok (.bool false) W := by
  rw [rlm]
  simp only [Sem.run_bind, partsPN, Result.andThen]
  simp [ReflectliteValue.isNil, loadVar, isAgg, underlying, Tryd.underlying121, ha, Result.andThen]
theorem elemPN (w : World) : (ReflectliteType.method ReflectliteType.elem #[.agg #[.pointer (some ⟨2, 121, none⟩)]]).run Tryd.prog w = .ok (.iface 176 (.agg #[.pointer (some ⟨2, 22, none⟩)])) w := by kernel_rfl
theorem implEN (w : World) : (ReflectliteType.relation "Implements" ReflectliteType.implements_ #[.agg #[.pointer (some ⟨2, 22, none⟩)], .iface 176 (.agg #[.pointer (some ⟨2, 64, none⟩)])]).run Tryd.prog w = .ok (.bool true) w := by kernel_rfl
theorem typeOfEN (v : Value) (w : World) : (ReflectliteType.typeOf #[.iface 22 v]).run Tryd.prog w = .ok (.iface 176 (.agg #[.pointer (some ⟨2, 22, none⟩)])) w := by kernel_rfl
theorem assignEN (w : World) : (ReflectliteType.relation "AssignableTo" ReflectliteType.assignableTo #[.agg #[.pointer (some ⟨2, 22, none⟩)], .iface 176 (.agg #[.pointer (some ⟨2, 22, none⟩)])]).run Tryd.prog w = .ok (.bool true) w := by kernel_rfl
theorem valueOfEN (e : Int) (w : World) : (ReflectliteValue.unpack (.iface 22 (.int .i64 e))).run Tryd.prog w
    = .ok (.agg #[.pointer (some ⟨2, 22, none⟩), .pointer (some ⟨w.heap.size, 0, none⟩), .int .u64 130]) (w.alloc (.cells #[.int .i64 e] 22)) := by kernel_rfl
theorem elemOfPN (w : World) : (Rtype.elem? 121).run Tryd.prog w = .ok (some 22) w := by kernel_rfl
theorem mkEN (p : Addr) (w : World) : (ReflectliteValue.mk 22 p ReflectliteValue.flagAddr).run Tryd.prog w = .ok (.agg #[.pointer (some ⟨2, 22, none⟩), .pointer (some p), .int .u64 386]) w := by kernel_rfl
theorem elemVN (a p : Addr) (W : World) (ha : W.cell? a = some (.pointer (some p))) :
    (ReflectliteValue.method (ReflectliteValue.valueError "reflectlite.Value.Elem" 0) ReflectliteValue.elem #[.agg #[.pointer (some ⟨2, 121, none⟩), .pointer (some a), .int .u64 150]]).run Tryd.prog W
      = .ok (.agg #[.pointer (some ⟨2, 22, none⟩), .pointer (some p), .int .u64 386]) W := by
  rw [rlm]
  simp only [Sem.run_bind, partsPN, Result.andThen]
  simp [ReflectliteValue.elem, loadVar, isAgg, underlying, Tryd.underlying121, ha, Result.andThen, elemOfPN, mkEN]
theorem partsEaN (a : Addr) (w : World) : (ReflectliteValue.parts (.agg #[.pointer (some ⟨2, 22, none⟩), .pointer (some a), .int .u64 386])).run Tryd.prog w = .ok (some (22, a, 386)) w := by kernel_rfl
theorem partsEN (a : Addr) (w : World) : (ReflectliteValue.parts (.agg #[.pointer (some ⟨2, 22, none⟩), .pointer (some a), .int .u64 130])).run Tryd.prog w = .ok (some (22, a, 130)) w := by kernel_rfl
theorem directEN (w : World) : (Rtype.directlyAssignable 22 22).run Tryd.prog w = .ok true w := by kernel_rfl
theorem setEN (ta b : Addr) (e : Int) (old : Value) (W : World) (hb : W.cell? b = some (.int .i64 e)) (ht : W.cell? ta = some old) (hf : W.frozen? ta = false) :
    (ReflectliteValue.set #[.agg #[.pointer (some ⟨2, 22, none⟩), .pointer (some ta), .int .u64 386], .agg #[.pointer (some ⟨2, 22, none⟩), .pointer (some b), .int .u64 130]]).run Tryd.prog W
      = .ok (.tuple #[]) (W.setCell ta (.int .i64 e)) := by
  rw [rls]
  simp only [Sem.run_bind, partsEaN, partsEN, Result.andThen]
  simp [ReflectliteValue.flagAddr, loadVar, isAgg, underlying, Tryd.underlying22, hb, Result.andThen, directEN, storeVar, Value.cells, storeCells, Addr.add]
  rw [run_store Tryd.prog W ta _ _ (by rfl)]
  simp [ht, hf]
set_option maxHeartbeats 4000000 in
theorem as_hitWN (e : Int) (t : Addr) (old : Value) (w : World) (hg : ErrT w) (ht0 : w.cell? t = some old) (hf0 : w.frozen? t = false) :
    Calls Tryd.prog 59 #[.iface 22 (.int .i64 e), .iface 121 (.pointer (some t))] w fun ev w' => ev = .returned (.bool true) ∧ w' = ((((w.alloc (.cells #[.pointer (some t)] 121)).alloc (.cells #[.pointer (some ⟨2, 121, none⟩), .pointer (some ⟨w.heap.size, 0, none⟩), .int .u64 150] 155)).alloc (.cells #[.pointer (some ⟨2, 121, none⟩), .pointer (some ⟨w.heap.size, 0, none⟩), .int .u64 150] 155)).alloc (.cells #[.int .i64 e] 22)).setCell t (.int .i64 e) := by
  have hVO := @run_callFunc_extern Tryd.prog 78 _ (fun args => ReflectliteValue.unpack (args.getD 0 (.tuple #[]))) Tryd.func78 (by kernel_rfl) (by kernel_rfl) (by kernel_rfl) (by kernel_rfl)
  have hTy := @run_callFunc_extern Tryd.prog 79 _ (ReflectliteValue.methodAny (ReflectliteValue.valueError "reflectlite.Value.Type" 0) (fun t _ _ _ => ReflectliteType.toType t)) Tryd.func79 (by kernel_rfl) (by kernel_rfl) (by kernel_rfl) (by kernel_rfl)
  have hNil := @run_callFunc_extern Tryd.prog 80 _ (ReflectliteValue.method (ReflectliteValue.valueError "reflectlite.Value.IsNil" 0) ReflectliteValue.isNil) Tryd.func80 (by kernel_rfl) (by kernel_rfl) (by kernel_rfl) (by kernel_rfl)
  have hK := @run_callFunc_extern Tryd.prog 111 _ (ReflectliteType.abiMethod fun t => do pure (.int .u8 (← Rtype.kind t))) Tryd.func111 (by kernel_rfl) (by kernel_rfl) (by kernel_rfl) (by kernel_rfl)
  have hRE := @run_callFunc_extern Tryd.prog 123 _ (ReflectliteType.method ReflectliteType.elem) Tryd.func123 (by kernel_rfl) (by kernel_rfl) (by kernel_rfl) (by kernel_rfl)
  have hRI := @run_callFunc_extern Tryd.prog 124 _ (ReflectliteType.relation "Implements" ReflectliteType.implements_) Tryd.func124 (by kernel_rfl) (by kernel_rfl) (by kernel_rfl) (by kernel_rfl)
  have hTO := @run_callFunc_extern Tryd.prog 89 _ ReflectliteType.typeOf Tryd.func89 (by kernel_rfl) (by kernel_rfl) (by kernel_rfl) (by kernel_rfl)
  have hRA := @run_callFunc_extern Tryd.prog 121 _ (ReflectliteType.relation "AssignableTo" ReflectliteType.assignableTo) Tryd.func121 (by kernel_rfl) (by kernel_rfl) (by kernel_rfl) (by kernel_rfl)
  have hEl := @run_callFunc_extern Tryd.prog 92 _ (ReflectliteValue.method (ReflectliteValue.valueError "reflectlite.Value.Elem" 0) ReflectliteValue.elem) Tryd.func92 (by kernel_rfl) (by kernel_rfl) (by kernel_rfl) (by kernel_rfl)
  have hSet := @run_callFunc_extern Tryd.prog 93 _ ReflectliteValue.set Tryd.func93 (by kernel_rfl) (by kernel_rfl) (by kernel_rfl) (by kernel_rfl)
  have zvalueOfPN := valueOfPN
  have ztypePN := typePN
  have zkindPN := kindPN
  have zkindEN := kindEN
  have zelemPN := elemPN
  have zimplEN := implEN
  have ztypeOfEN := typeOfEN
  have zassignEN := assignEN
  have zvalueOfEN := valueOfEN
  have zmKind := mKind
  have zmElem := mElem
  have zmImplements := mImplements
  have zmAssignableTo := mAssignableTo
  have hlt := hg.lt
  unfold ErrT at hg
  have n8 := isNilPN ⟨w.heap.size, 0, none⟩ t ((w.alloc (.cells #[.pointer (some t)] 121)).alloc (.cells #[.pointer (some ⟨2, 121, none⟩), .pointer (some ⟨w.heap.size, 0, none⟩), .int .u64 150] 155)) (by simp)
  have hg2 : ((w.alloc (.cells #[.pointer (some t)] 121)).alloc (.cells #[.pointer (some ⟨2, 121, none⟩), .pointer (some ⟨w.heap.size, 0, none⟩), .int .u64 150] 155)).cell? ⟨0, 0, none⟩ = some (.iface 176 (.agg #[.pointer (some ⟨2, 64, none⟩)])) := by
    rw [World.cell?_alloc_lt _ _ ⟨0, 0, none⟩ (by first | (simp; done) | (simp; omega)), World.cell?_alloc_lt _ _ ⟨0, 0, none⟩ hlt]; exact hg
  have htl : t.block < w.heap.size := World.block_lt_of_cell? w _ ht0
  have el := elemVN ⟨w.heap.size, 0, none⟩ t (((w.alloc (.cells #[.pointer (some t)] 121)).alloc (.cells #[.pointer (some ⟨2, 121, none⟩), .pointer (some ⟨w.heap.size, 0, none⟩), .int .u64 150] 155)).alloc (.cells #[.pointer (some ⟨2, 121, none⟩), .pointer (some ⟨w.heap.size, 0, none⟩), .int .u64 150] 155)) (by rw [World.cell?_alloc_lt _ _ ⟨w.heap.size, 0, none⟩ (by simp; omega)]; simp)
  have st := setEN t ⟨w.heap.size + 1 + 1 + 1, 0, none⟩ e old ((((w.alloc (.cells #[.pointer (some t)] 121)).alloc (.cells #[.pointer (some ⟨2, 121, none⟩), .pointer (some ⟨w.heap.size, 0, none⟩), .int .u64 150] 155)).alloc (.cells #[.pointer (some ⟨2, 121, none⟩), .pointer (some ⟨w.heap.size, 0, none⟩), .int .u64 150] 155)).alloc (.cells #[.int .i64 e] 22))
    (by rw [World.cell?_alloc_at _ _ _ _ (by simp)]; rfl)
    (by rw [World.cell?_alloc_lt _ _ t (by simp; omega), World.cell?_alloc_lt _ _ t (by simp; omega), World.cell?_alloc_lt _ _ t (by simp; omega), World.cell?_alloc_lt _ _ t htl]; exact ht0)
    (by rw [World.frozen?_alloc_old _ _ t (by simp; omega), World.frozen?_alloc_old _ _ t (by simp; omega), World.frozen?_alloc_old _ _ t (by simp; omega), World.frozen?_alloc_old _ _ t (Nat.ne_of_lt htl)]; exact hf0)
  clear hg
  go_enter Tryd.func59, Tryd.ntmps59
  go_wp2
  refine wp_loop_rounds 1 ?_
  rw [rounds_succ]
  go_wp2
  go_ret
  exact ⟨rfl, rfl⟩
/-- A hit: the target's variable, alone in its block, is set. -/
theorem as_hitN (e : Int) (b : Nat) (old : Value) (w : World) (hg : ErrT w) (hA : Arr w b 22 1 (fun _ => old)) :
    Calls Tryd.prog 59 #[.iface 22 (.int .i64 e), .iface 121 (.pointer (some ⟨b, 0, none⟩))] w fun ev w' => ev = .returned (.bool true) ∧ Arr w' b 22 1 (fun _ => .int .i64 e) ∧ Mod [b] w w' := by
  refine (as_hitWN e ⟨b, 0, none⟩ old w hg (hA.cell 0 (by omega)) (hA.free 0)).mono ?_
  rintro ev w' ⟨rfl, rfl⟩
  refine ⟨rfl, ((((((hA.alloc _).alloc _).alloc _).alloc _).set 0 _).congr fun i hi => ?_), (((((Mod.refl [b] w).alloc _).alloc _).alloc _).alloc _).setCell (.inl (by simp)) _⟩
  simp [show i = 0 by omega]
theorem assignNo (w : World) : (ReflectliteType.relation "AssignableTo" ReflectliteType.assignableTo #[.agg #[.pointer (some ⟨2, 22, none⟩)], .iface 176 (.agg #[.pointer (some ⟨2, 116, none⟩)])]).run Tryd.prog w = .ok (.bool false) w := by kernel_rfl
theorem noAsN (v : Value) (xT : TypeId) (w : World) : (Instr.typeAssert (.iface 22 v) xT 180 true).run Tryd.prog w = .ok (.tuple #[.nilIface, .bool false]) w := run_typeAssert_lacksB Tryd.underlying180 (by kernel_rfl) (by kernel_rfl) v xT w
theorem noUnN (v : Value) (xT : TypeId) (w : World) : (Instr.typeAssert (.iface 22 v) xT 164 true).run Tryd.prog w = .ok (.tuple #[.nilIface, .bool false]) w := run_typeAssert_lacksB Tryd.underlying164 (by kernel_rfl) (by kernel_rfl) v xT w
theorem noUsN (v : Value) (xT : TypeId) (w : World) : (Instr.typeAssert (.iface 22 v) xT 183 true).run Tryd.prog w = .ok (.tuple #[.nilIface, .bool false]) w := run_typeAssert_lacksB Tryd.underlying183 (by kernel_rfl) (by kernel_rfl) v xT w
theorem hasUnF (v : Value) (xT : TypeId) (w : World) : (Instr.typeAssert (.iface 116 v) xT 164 true).run Tryd.prog w = .ok (.tuple #[.iface 116 v, .bool true]) w := run_typeAssert_hasB Tryd.underlying164 (by kernel_rfl) v xT w
theorem mUnwrap (v : Value) (w : World) : (Go.method 321 116 v "Unwrap").run Tryd.prog w = .ok (116, v) w := by kernel_rfl
set_option maxHeartbeats 4000000 in
theorem as_miss (e : Int) (t : Addr) (w : World) (hg : ErrT w) :
    Calls Tryd.prog 59 #[.iface 22 (.int .i64 e), .iface 118 (.pointer (some t))] w fun ev w' => ev = .returned (.bool false) ∧ Mod [] w w' := by
  have hVO := @run_callFunc_extern Tryd.prog 78 _ (fun args => ReflectliteValue.unpack (args.getD 0 (.tuple #[]))) Tryd.func78 (by kernel_rfl) (by kernel_rfl) (by kernel_rfl) (by kernel_rfl)
  have hTy := @run_callFunc_extern Tryd.prog 79 _ (ReflectliteValue.methodAny (ReflectliteValue.valueError "reflectlite.Value.Type" 0) (fun t _ _ _ => ReflectliteType.toType t)) Tryd.func79 (by kernel_rfl) (by kernel_rfl) (by kernel_rfl) (by kernel_rfl)
  have hNil := @run_callFunc_extern Tryd.prog 80 _ (ReflectliteValue.method (ReflectliteValue.valueError "reflectlite.Value.IsNil" 0) ReflectliteValue.isNil) Tryd.func80 (by kernel_rfl) (by kernel_rfl) (by kernel_rfl) (by kernel_rfl)
  have hK := @run_callFunc_extern Tryd.prog 111 _ (ReflectliteType.abiMethod fun t => do pure (.int .u8 (← Rtype.kind t))) Tryd.func111 (by kernel_rfl) (by kernel_rfl) (by kernel_rfl) (by kernel_rfl)
  have hRE := @run_callFunc_extern Tryd.prog 123 _ (ReflectliteType.method ReflectliteType.elem) Tryd.func123 (by kernel_rfl) (by kernel_rfl) (by kernel_rfl) (by kernel_rfl)
  have hRI := @run_callFunc_extern Tryd.prog 124 _ (ReflectliteType.relation "Implements" ReflectliteType.implements_) Tryd.func124 (by kernel_rfl) (by kernel_rfl) (by kernel_rfl) (by kernel_rfl)
  have hTO := @run_callFunc_extern Tryd.prog 89 _ ReflectliteType.typeOf Tryd.func89 (by kernel_rfl) (by kernel_rfl) (by kernel_rfl) (by kernel_rfl)
  have hRA := @run_callFunc_extern Tryd.prog 121 _ (ReflectliteType.relation "AssignableTo" ReflectliteType.assignableTo) Tryd.func121 (by kernel_rfl) (by kernel_rfl) (by kernel_rfl) (by kernel_rfl)
  have zvalueOfPF := valueOfPF
  have ztypePF := typePF
  have zkindPF := kindPF
  have zkindEF := kindEF
  have zelemPF := elemPF
  have zimplEF := implEF
  have ztypeOfEN := typeOfEN
  have zassignNo := assignNo
  have zmKind := mKind
  have zmElem := mElem
  have zmImplements := mImplements
  have zmAssignableTo := mAssignableTo
  have znoAsN := noAsN
  have znoUnN := noUnN
  have znoUsN := noUsN
  have hlt := hg.lt
  unfold ErrT at hg
  have n8 := isNilPF ⟨w.heap.size, 0, none⟩ t ((w.alloc (.cells #[.pointer (some t)] 118)).alloc (.cells #[.pointer (some ⟨2, 118, none⟩), .pointer (some ⟨w.heap.size, 0, none⟩), .int .u64 150] 155)) (by simp)
  have hg2 : ((w.alloc (.cells #[.pointer (some t)] 118)).alloc (.cells #[.pointer (some ⟨2, 118, none⟩), .pointer (some ⟨w.heap.size, 0, none⟩), .int .u64 150] 155)).cell? ⟨0, 0, none⟩ = some (.iface 176 (.agg #[.pointer (some ⟨2, 64, none⟩)])) := by
    rw [World.cell?_alloc_lt _ _ ⟨0, 0, none⟩ (by first | (simp; done) | (simp; omega)), World.cell?_alloc_lt _ _ ⟨0, 0, none⟩ hlt]; exact hg
  clear hg
  go_enter Tryd.func59, Tryd.ntmps59
  go_wp2
  refine wp_loop_rounds 1 ?_
  rw [rounds_succ]
  go_wp2
  go_ret
  exact ⟨rfl, ((((Mod.refl [] w).alloc _).alloc _).alloc _)⟩
end Go.Proofs.YtphcoenooinmfaaDoor
