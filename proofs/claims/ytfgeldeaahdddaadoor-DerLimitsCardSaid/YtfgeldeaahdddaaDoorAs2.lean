/- errors.As at the target *api.Code: the walks. -/
import Derived.Test.YtfgeldeaahdddaaDoorAs
set_option linter.unusedVariables false
set_option linter.unusedSimpArgs false
namespace Go.Proofs.YtfgeldeaahdddaaDoor
open Go.RowKit Go.Extern.Stop Go.Stop Go.Extern Lx

/-- errors.As(nil, target). -/
theorem as_nil (t : Value) (w : World) : Calls Tryd.prog 45 #[.nilIface, t] w fun e w' => e = .returned (.bool false) ∧ w' = w := by
  go_enter Tryd.func45, Tryd.ntmps45
  go_wp2
  go_ret
  exact ⟨rfl, rfl⟩

set_option maxHeartbeats 4000000 in
theorem as_code (c : Int) (t : Addr) (old : Value) (w : World) (hg : Laid w) (ht0 : w.cell? t = some old) (hf0 : w.frozen? t = false) :
    Calls Tryd.prog 45 #[.iface 56 (.int .i64 c), .iface 83 (.pointer (some t))] w fun ev w' => ev = .returned (.bool true) ∧ ∃ w2, Below w.heap.size w w2 ∧ w' = w2.setCell t (.int .i64 c) := by
  have h6 := @run_callFunc_extern Tryd.prog 49 _ (fun args => ReflectliteValue.unpack (args.getD 0 (.tuple #[]))) Tryd.func49 (by kernel_rfl) (by kernel_rfl) (by kernel_rfl) (by kernel_rfl)
  have h7 := @run_callFunc_extern Tryd.prog 50 _ (ReflectliteValue.methodAny (ReflectliteValue.valueError "reflectlite.Value.Type" 0) (fun t _ _ _ => ReflectliteType.toType t)) Tryd.func50 (by kernel_rfl) (by kernel_rfl) (by kernel_rfl) (by kernel_rfl)
  have h8 := @run_callFunc_extern Tryd.prog 51 _ (ReflectliteValue.method (ReflectliteValue.valueError "reflectlite.Value.IsNil" 0) ReflectliteValue.isNil) Tryd.func51 (by kernel_rfl) (by kernel_rfl) (by kernel_rfl) (by kernel_rfl)
  have h27 := @run_callFunc_extern Tryd.prog 73 _ (ReflectliteType.abiMethod fun t => do pure (.int .u8 (← Rtype.kind t))) Tryd.func73 (by kernel_rfl) (by kernel_rfl) (by kernel_rfl) (by kernel_rfl)
  have h37 := @run_callFunc_extern Tryd.prog 86 _ (ReflectliteType.method ReflectliteType.elem) Tryd.func86 (by kernel_rfl) (by kernel_rfl) (by kernel_rfl) (by kernel_rfl)
  have h38 := @run_callFunc_extern Tryd.prog 87 _ (ReflectliteType.relation "Implements" ReflectliteType.implements_) Tryd.func87 (by kernel_rfl) (by kernel_rfl) (by kernel_rfl) (by kernel_rfl)
  have h10 := @run_callFunc_extern Tryd.prog 56 _ ReflectliteType.typeOf Tryd.func56 (by kernel_rfl) (by kernel_rfl) (by kernel_rfl) (by kernel_rfl)
  have h35 := @run_callFunc_extern Tryd.prog 84 _ (ReflectliteType.relation "AssignableTo" ReflectliteType.assignableTo) Tryd.func84 (by kernel_rfl) (by kernel_rfl) (by kernel_rfl) (by kernel_rfl)
  have h11 := @run_callFunc_extern Tryd.prog 57 _ (ReflectliteValue.method (ReflectliteValue.valueError "reflectlite.Value.Elem" 0) ReflectliteValue.elem) Tryd.func57 (by kernel_rfl) (by kernel_rfl) (by kernel_rfl) (by kernel_rfl)
  have h12 := @run_callFunc_extern Tryd.prog 58 _ ReflectliteValue.set Tryd.func58 (by kernel_rfl) (by kernel_rfl) (by kernel_rfl) (by kernel_rfl)
  have tO := As.typeOfC
  have mA := As.methodAssignableTo
  have aC := As.assignableC
  have vC := As.valueOfC
  have f6 := As.valueOfP
  have f7 := As.typeP
  have mK := As.methodKind
  have mE := As.methodElem
  have mI := As.methodImplements
  have kP := As.kindP
  have kC := As.kindC
  have eP := As.elemP
  have iC := As.implementsC
  have n8 := As.isNilP ⟨w.heap.size, 0, none⟩ t ((w.alloc (.cells #[.pointer (some t)] 83)).alloc (.cells #[.pointer (some ⟨1, 83, none⟩), .pointer (some ⟨w.heap.size, 0, none⟩), .int .u64 150] 93)) (by simp)
  have hlt := hg.lt
  have hg2 : ((w.alloc (.cells #[.pointer (some t)] 83)).alloc (.cells #[.pointer (some ⟨1, 83, none⟩), .pointer (some ⟨w.heap.size, 0, none⟩), .int .u64 150] 93)).cell? ⟨0, 0, none⟩ = some (.iface 107 (.agg #[.pointer (some ⟨1, 28, none⟩)])) := by
    have h : Laid ((w.alloc (.cells #[.pointer (some t)] 83)).alloc (.cells #[.pointer (some ⟨1, 83, none⟩), .pointer (some ⟨w.heap.size, 0, none⟩), .int .u64 150] 93)) := hg.move (bl_alloc (bl_alloc (bl_refl _) _) _)
    exact h
  have htl : t.block < w.heap.size := World.block_lt_of_cell? w _ ht0
  have el := As.elemVP ⟨w.heap.size, 0, none⟩ t (((w.alloc (.cells #[.pointer (some t)] 83)).alloc (.cells #[.pointer (some ⟨1, 83, none⟩), .pointer (some ⟨w.heap.size, 0, none⟩), .int .u64 150] 93)).alloc (.cells #[.pointer (some ⟨1, 83, none⟩), .pointer (some ⟨w.heap.size, 0, none⟩), .int .u64 150] 93)) (cell_move (w := (w.alloc (.cells #[.pointer (some t)] 83))) (by (repeat (refine (alloc_old _ _ _ (by first | omega | (simp; done) | (simp; omega))).trans ?_)); rfl) ((blk_cell (new_block w _) 0).trans rfl))
  have st := As.setC t ⟨w.heap.size + 1 + 1 + 1, 0, none⟩ c old ((((w.alloc (.cells #[.pointer (some t)] 83)).alloc (.cells #[.pointer (some ⟨1, 83, none⟩), .pointer (some ⟨w.heap.size, 0, none⟩), .int .u64 150] 93)).alloc (.cells #[.pointer (some ⟨1, 83, none⟩), .pointer (some ⟨w.heap.size, 0, none⟩), .int .u64 150] 93)).alloc (.cells #[.int .i64 c] 56))
    (by rw [World.cell?_alloc_at _ _ _ _ (by simp)]; rfl)
    (cell_move (by (repeat (refine (alloc_old _ _ _ (by first | omega | (simp; done) | (simp; omega))).trans ?_)); rfl) ht0)
    (by rw [World.frozen?_of_block (w := w) (by (repeat (refine (alloc_old _ _ _ (by first | omega | (simp; done) | (simp; omega))).trans ?_)); rfl)]; exact hf0)
  unfold Laid at hg
  go_enter Tryd.func45, Tryd.ntmps45
  go_wp2
  refine wp_loop_rounds 1 ?_
  rw [rounds_succ]
  go_wp2
  go_ret
  exact ⟨rfl, _, by repeat (first | exact bl_refl _ | apply bl_alloc), rfl⟩

set_option maxHeartbeats 4000000 in
theorem as_fault (c a : Int) (t : Addr) (old : Value) (w : World) (hg : Laid w) (ht0 : w.cell? t = some old) (hf0 : w.frozen? t = false) :
    Calls Tryd.prog 45 #[.iface 70 (.agg #[.int .i64 c, .int .i64 a]), .iface 83 (.pointer (some t))] w fun ev w' => ev = .returned (.bool true) ∧ ∃ w2, Below w.heap.size w w2 ∧ w' = w2.setCell t (.int .i64 c) := by
  have h6 := @run_callFunc_extern Tryd.prog 49 _ (fun args => ReflectliteValue.unpack (args.getD 0 (.tuple #[]))) Tryd.func49 (by kernel_rfl) (by kernel_rfl) (by kernel_rfl) (by kernel_rfl)
  have h7 := @run_callFunc_extern Tryd.prog 50 _ (ReflectliteValue.methodAny (ReflectliteValue.valueError "reflectlite.Value.Type" 0) (fun t _ _ _ => ReflectliteType.toType t)) Tryd.func50 (by kernel_rfl) (by kernel_rfl) (by kernel_rfl) (by kernel_rfl)
  have h8 := @run_callFunc_extern Tryd.prog 51 _ (ReflectliteValue.method (ReflectliteValue.valueError "reflectlite.Value.IsNil" 0) ReflectliteValue.isNil) Tryd.func51 (by kernel_rfl) (by kernel_rfl) (by kernel_rfl) (by kernel_rfl)
  have h27 := @run_callFunc_extern Tryd.prog 73 _ (ReflectliteType.abiMethod fun t => do pure (.int .u8 (← Rtype.kind t))) Tryd.func73 (by kernel_rfl) (by kernel_rfl) (by kernel_rfl) (by kernel_rfl)
  have h37 := @run_callFunc_extern Tryd.prog 86 _ (ReflectliteType.method ReflectliteType.elem) Tryd.func86 (by kernel_rfl) (by kernel_rfl) (by kernel_rfl) (by kernel_rfl)
  have h38 := @run_callFunc_extern Tryd.prog 87 _ (ReflectliteType.relation "Implements" ReflectliteType.implements_) Tryd.func87 (by kernel_rfl) (by kernel_rfl) (by kernel_rfl) (by kernel_rfl)
  have h10 := @run_callFunc_extern Tryd.prog 56 _ ReflectliteType.typeOf Tryd.func56 (by kernel_rfl) (by kernel_rfl) (by kernel_rfl) (by kernel_rfl)
  have h35 := @run_callFunc_extern Tryd.prog 84 _ (ReflectliteType.relation "AssignableTo" ReflectliteType.assignableTo) Tryd.func84 (by kernel_rfl) (by kernel_rfl) (by kernel_rfl) (by kernel_rfl)
  have h11 := @run_callFunc_extern Tryd.prog 57 _ (ReflectliteValue.method (ReflectliteValue.valueError "reflectlite.Value.Elem" 0) ReflectliteValue.elem) Tryd.func57 (by kernel_rfl) (by kernel_rfl) (by kernel_rfl) (by kernel_rfl)
  have h12 := @run_callFunc_extern Tryd.prog 58 _ ReflectliteValue.set Tryd.func58 (by kernel_rfl) (by kernel_rfl) (by kernel_rfl) (by kernel_rfl)
  have tO := As.typeOfC
  have mA := As.methodAssignableTo
  have aC := As.assignableC
  have vC := As.valueOfC
  have f6 := As.valueOfP
  have f7 := As.typeP
  have mK := As.methodKind
  have mE := As.methodElem
  have mI := As.methodImplements
  have kP := As.kindP
  have kC := As.kindC
  have eP := As.elemP
  have iC := As.implementsC
  have tF := As.typeOfF
  have aF := As.assignableF
  have xA := As.assertAsF
  have xU := As.assertUnF
  have mU := As.methodUnF
  have n8 := As.isNilP ⟨w.heap.size, 0, none⟩ t ((w.alloc (.cells #[.pointer (some t)] 83)).alloc (.cells #[.pointer (some ⟨1, 83, none⟩), .pointer (some ⟨w.heap.size, 0, none⟩), .int .u64 150] 93)) (by simp)
  have hlt := hg.lt
  have hg2 : ((w.alloc (.cells #[.pointer (some t)] 83)).alloc (.cells #[.pointer (some ⟨1, 83, none⟩), .pointer (some ⟨w.heap.size, 0, none⟩), .int .u64 150] 93)).cell? ⟨0, 0, none⟩ = some (.iface 107 (.agg #[.pointer (some ⟨1, 28, none⟩)])) := by
    have h : Laid ((w.alloc (.cells #[.pointer (some t)] 83)).alloc (.cells #[.pointer (some ⟨1, 83, none⟩), .pointer (some ⟨w.heap.size, 0, none⟩), .int .u64 150] 93)) := hg.move (bl_alloc (bl_alloc (bl_refl _) _) _)
    exact h
  have htl : t.block < w.heap.size := World.block_lt_of_cell? w _ ht0
  have el := As.elemVP ⟨w.heap.size, 0, none⟩ t ((((w.alloc (.cells #[.pointer (some t)] 83)).alloc (.cells #[.pointer (some ⟨1, 83, none⟩), .pointer (some ⟨w.heap.size, 0, none⟩), .int .u64 150] 93)).alloc (.cells #[.pointer (some ⟨1, 83, none⟩), .pointer (some ⟨w.heap.size, 0, none⟩), .int .u64 150] 93)).alloc (.cells #[.int .i64 c, .int .i64 a] 70)) (cell_move (w := (w.alloc (.cells #[.pointer (some t)] 83))) (by (repeat (refine (alloc_old _ _ _ (by first | omega | (simp; done) | (simp; omega))).trans ?_)); rfl) ((blk_cell (new_block w _) 0).trans rfl))
  have st := As.setC t ⟨w.heap.size + 1 + 1 + 1 + 1, 0, none⟩ c old (((((w.alloc (.cells #[.pointer (some t)] 83)).alloc (.cells #[.pointer (some ⟨1, 83, none⟩), .pointer (some ⟨w.heap.size, 0, none⟩), .int .u64 150] 93)).alloc (.cells #[.pointer (some ⟨1, 83, none⟩), .pointer (some ⟨w.heap.size, 0, none⟩), .int .u64 150] 93)).alloc (.cells #[.int .i64 c, .int .i64 a] 70)).alloc (.cells #[.int .i64 c] 56))
    (by rw [World.cell?_alloc_at _ _ _ _ (by simp)]; rfl)
    (cell_move (by (repeat (refine (alloc_old _ _ _ (by first | omega | (simp; done) | (simp; omega))).trans ?_)); rfl) ht0)
    (by rw [World.frozen?_of_block (w := w) (by (repeat (refine (alloc_old _ _ _ (by first | omega | (simp; done) | (simp; omega))).trans ?_)); rfl)]; exact hf0)
  unfold Laid at hg
  go_enter Tryd.func45, Tryd.ntmps45
  go_wp2
  refine wp_loop_rounds 2 ?_
  rw [rounds_succ]
  go_wp2
  rw [rounds_succ]
  go_wp2
  go_ret
  exact ⟨rfl, _, by repeat (first | exact bl_refl _ | apply bl_alloc), rfl⟩
end Go.Proofs.YtfgeldeaahdddaaDoor
