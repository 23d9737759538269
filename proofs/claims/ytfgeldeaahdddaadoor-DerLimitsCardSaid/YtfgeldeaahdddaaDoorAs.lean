/- errors.As at the target *api.Code, fault.Code, fault.At, errors.Unwrap: for a nil error, a code, a fault. (After the guide's worked toy 'toyas'.) -/
import Derived.Test.YtfgeldeaahdddaaDoorProg
import Derived.Test.YtfgeldeaahdddaaDoorLx
import Derived.WalkKit
import Derived.LaidEql
import Derived.Stop.Asserts
import Derived.RowKitTokens
import Derived.KernelRfl
set_option linter.unusedVariables false
set_option linter.unusedSimpArgs false
namespace Go.Proofs.YtfgeldeaahdddaaDoor
open Go.RowKit Go.Extern.Stop Go.Stop Go.Extern Lx

/-- What the package variable errors.errorType holds. -/
def Laid (w : World) : Prop := w.cell? ⟨0, 0, none⟩ = some (.iface 107 (.agg #[.pointer (some ⟨1, 28, none⟩)]))
theorem Laid.lt {w : World} (h : Laid w) : 0 < w.heap.size := World.block_lt_of_cell? w _ h
theorem Laid.move {w w' : World} (h : Laid w) (hb : Below w.heap.size w w') : Laid w' := cell_move (hb.block _ h.lt) h

theorem As.valueOfP (t : Addr) (w : World) : (ReflectliteValue.unpack (.iface 83 (.pointer (some t)))).run Tryd.prog w
    = .ok (.agg #[.pointer (some ⟨1, 83, none⟩), .pointer (some ⟨w.heap.size, 0, none⟩), .int .u64 150]) (w.alloc (.cells #[.pointer (some t)] 83)) := by kernel_rfl
theorem As.typeP (a : Addr) (w : World) : (ReflectliteValue.methodAny (ReflectliteValue.valueError "reflectlite.Value.Type" 0) (fun t _ _ _ => ReflectliteType.toType t) #[.agg #[.pointer (some ⟨1, 83, none⟩), .pointer (some a), .int .u64 150]]).run Tryd.prog w
    = .ok (.iface 107 (.agg #[.pointer (some ⟨1, 83, none⟩)])) w := by kernel_rfl
theorem As.fuel : Tryd.prog.types.size + 100 = Tryd.prog.types.size + 100 := rfl
theorem As.methodKind (h : Value) (w : World) : (Go.method (247) 107 (.agg #[h]) "Kind").run Tryd.prog w = .ok (73, h) w := by kernel_rfl
theorem As.kindP (w : World) : ((ReflectliteType.abiMethod fun t => (fun a : Nat => Value.int IntKind.u8 (a : Int)) <$> Rtype.kind t) #[.pointer (some ⟨1, 83, none⟩)]).run Tryd.prog w = .ok (.int .u8 22) w := by kernel_rfl
theorem As.kindC (w : World) : ((ReflectliteType.abiMethod fun t => (fun a : Nat => Value.int IntKind.u8 (a : Int)) <$> Rtype.kind t) #[.pointer (some ⟨1, 56, none⟩)]).run Tryd.prog w = .ok (.int .u8 2) w := by kernel_rfl
theorem As.rlm (z : Sem Value) (f : TypeId → Addr → Nat → Nat → Sem Value) (v : Value) :
    ReflectliteValue.method z f #[v] = (do match ← ReflectliteValue.parts v with | none => z | some (t, a, fl) => f t a fl (fl % 32)) := rfl
theorem As.partsP (a : Addr) (w : World) : (ReflectliteValue.parts (.agg #[.pointer (some ⟨1, 83, none⟩), .pointer (some a), .int .u64 150])).run Tryd.prog w = .ok (some (83, a, 150)) w := by kernel_rfl
theorem As.isNilP (a p : Addr) (W : World) (ha : W.cell? a = some (.pointer (some p))) :
    (ReflectliteValue.method (ReflectliteValue.valueError "reflectlite.Value.IsNil" 0) ReflectliteValue.isNil #[.agg #[.pointer (some ⟨1, 83, none⟩), .pointer (some a), .int .u64 150]]).run Tryd.prog W = .ok (.bool false) W := by
  rw [As.rlm]
  simp only [Sem.run_bind, As.partsP, Result.andThen]
  simp [ReflectliteValue.isNil, loadVar, isAgg, underlying, Tryd.underlying83, ha, Result.andThen]
theorem As.methodElem (h : Value) (w : World) : (Go.method (247) 107 (.agg #[h]) "Elem").run Tryd.prog w = .ok (86, .agg #[h]) w := by kernel_rfl
theorem As.methodAssignableTo (h : Value) (w : World) : (Go.method (247) 107 (.agg #[h]) "AssignableTo").run Tryd.prog w = .ok (84, .agg #[h]) w := by kernel_rfl
theorem As.methodImplements (h : Value) (w : World) : (Go.method (247) 107 (.agg #[h]) "Implements").run Tryd.prog w = .ok (87, .agg #[h]) w := by kernel_rfl
theorem As.implementsC (w : World) : (ReflectliteType.relation "Implements" ReflectliteType.implements_ #[.agg #[.pointer (some ⟨1, 56, none⟩)], .iface 107 (.agg #[.pointer (some ⟨1, 28, none⟩)])]).run Tryd.prog w = .ok (.bool true) w := by kernel_rfl
theorem As.elemP (w : World) : (ReflectliteType.method ReflectliteType.elem #[.agg #[.pointer (some ⟨1, 83, none⟩)]]).run Tryd.prog w = .ok (.iface 107 (.agg #[.pointer (some ⟨1, 56, none⟩)])) w := by kernel_rfl
theorem As.typeOfC (v : Value) (w : World) : (ReflectliteType.typeOf #[.iface 56 v]).run Tryd.prog w = .ok (.iface 107 (.agg #[.pointer (some ⟨1, 56, none⟩)])) w := by kernel_rfl
theorem As.typeOfF (v : Value) (w : World) : (ReflectliteType.typeOf #[.iface 70 v]).run Tryd.prog w = .ok (.iface 107 (.agg #[.pointer (some ⟨1, 70, none⟩)])) w := by kernel_rfl
theorem As.assignableC (w : World) : (ReflectliteType.relation "AssignableTo" ReflectliteType.assignableTo #[.agg #[.pointer (some ⟨1, 56, none⟩)], .iface 107 (.agg #[.pointer (some ⟨1, 56, none⟩)])]).run Tryd.prog w = .ok (.bool true) w := by kernel_rfl
theorem As.assignableF (w : World) : (ReflectliteType.relation "AssignableTo" ReflectliteType.assignableTo #[.agg #[.pointer (some ⟨1, 70, none⟩)], .iface 107 (.agg #[.pointer (some ⟨1, 56, none⟩)])]).run Tryd.prog w = .ok (.bool false) w := by kernel_rfl
theorem As.valueOfC (c : Int) (w : World) : (ReflectliteValue.unpack (.iface 56 (.int .i64 c))).run Tryd.prog w
    = .ok (.agg #[.pointer (some ⟨1, 56, none⟩), .pointer (some ⟨w.heap.size, 0, none⟩), .int .u64 130]) (w.alloc (.cells #[.int .i64 c] 56)) := by kernel_rfl
theorem As.elemOfP (w : World) : (Rtype.elem? 83).run Tryd.prog w = .ok (some 56) w := by kernel_rfl
theorem As.mkC (p : Addr) (w : World) : (ReflectliteValue.mk 56 p ReflectliteValue.flagAddr).run Tryd.prog w = .ok (.agg #[.pointer (some ⟨1, 56, none⟩), .pointer (some p), .int .u64 386]) w := by kernel_rfl
theorem As.elemVP (a p : Addr) (W : World) (ha : W.cell? a = some (.pointer (some p))) :
    (ReflectliteValue.method (ReflectliteValue.valueError "reflectlite.Value.Elem" 0) ReflectliteValue.elem #[.agg #[.pointer (some ⟨1, 83, none⟩), .pointer (some a), .int .u64 150]]).run Tryd.prog W
      = .ok (.agg #[.pointer (some ⟨1, 56, none⟩), .pointer (some p), .int .u64 386]) W := by
  rw [As.rlm]
  simp only [Sem.run_bind, As.partsP, Result.andThen]
  simp [ReflectliteValue.elem, loadVar, isAgg, underlying, Tryd.underlying83, ha, Result.andThen, As.elemOfP, As.mkC]
theorem As.rls (v x : Value) : ReflectliteValue.set #[v, x] = (do
    let (some (dst, a, fl), some (src, b, _)) := (← ReflectliteValue.parts v, ← ReflectliteValue.parts x)
      | unsupported (.noEntry "extern/(internal/reflectlite.Value).Set.zeroValue")
    if fl / ReflectliteValue.flagAddr % 2 == 0 then unsupported (.noEntry "extern/(internal/reflectlite.Value).Set.unaddressable")
    let val ← loadVar src b
    if ← Rtype.directlyAssignable dst src then storeVar dst a val
    else if ← Rtype.implements dst src then
      if (← Rtype.kind src) == 20 then
        match val with
        | .nilIface => unsupported (.noEntry "extern/reflectlite: a nil value of one interface type handed on as a value of another")
        | _ => storeVar dst a val
      else storeVar dst a (.iface src val)
    else panicString ("reflectlite.Set: value of type " ++ (← Rtype.spelt src) ++ " is not assignable to type " ++ (← Rtype.spelt dst))
    pure (.tuple #[])) := rfl
theorem As.partsCa (a : Addr) (w : World) : (ReflectliteValue.parts (.agg #[.pointer (some ⟨1, 56, none⟩), .pointer (some a), .int .u64 386])).run Tryd.prog w = .ok (some (56, a, 386)) w := by kernel_rfl
theorem As.partsC (a : Addr) (w : World) : (ReflectliteValue.parts (.agg #[.pointer (some ⟨1, 56, none⟩), .pointer (some a), .int .u64 130])).run Tryd.prog w = .ok (some (56, a, 130)) w := by kernel_rfl
theorem As.directC (w : World) : (Rtype.directlyAssignable 56 56).run Tryd.prog w = .ok true w := by kernel_rfl
theorem As.setC (ta b : Addr) (c : Int) (old : Value) (W : World) (hb : W.cell? b = some (.int .i64 c)) (ht : W.cell? ta = some old) (hf : W.frozen? ta = false) :
    (ReflectliteValue.set #[.agg #[.pointer (some ⟨1, 56, none⟩), .pointer (some ta), .int .u64 386], .agg #[.pointer (some ⟨1, 56, none⟩), .pointer (some b), .int .u64 130]]).run Tryd.prog W
      = .ok (.tuple #[]) (W.setCell ta (.int .i64 c)) := by
  rw [As.rls]
  simp only [Sem.run_bind, As.partsCa, As.partsC, Result.andThen]
  simp [ReflectliteValue.flagAddr, loadVar, isAgg, underlying, Tryd.underlying56, hb, Result.andThen, As.directC, storeVar, Value.cells, storeCells, Addr.add]
  rw [run_store Tryd.prog W ta _ _ (by rfl)]
  simp [ht, hf]
theorem As.assertAsF (v : Value) (w : World) : (Instr.typeAssert (.iface 70 v) 28 112 true).run Tryd.prog w = .ok (.tuple #[.nilIface, .bool false]) w := run_typeAssert_lacksB Tryd.underlying112 (by kernel_rfl) (by kernel_rfl) v _ w
theorem As.assertUnF (v : Value) (w : World) : (Instr.typeAssert (.iface 70 v) 28 86 true).run Tryd.prog w = .ok (.tuple #[.iface 70 v, .bool true]) w := by kernel_rfl
theorem As.methodUnF (c a : Int) (w : World) : (Go.method (247) 70 (.agg #[.int .i64 c, .int .i64 a]) "Unwrap").run Tryd.prog w = .ok (78, .agg #[.int .i64 c, .int .i64 a]) w := by kernel_rfl
theorem As.assertUnC (v : Value) (w : World) : (Instr.typeAssert (.iface 56 v) 28 86 true).run Tryd.prog w = .ok (.tuple #[.nilIface, .bool false]) w := run_typeAssert_lacksB Tryd.underlying86 (by kernel_rfl) (by kernel_rfl) v _ w

end Go.Proofs.YtfgeldeaahdddaaDoor
