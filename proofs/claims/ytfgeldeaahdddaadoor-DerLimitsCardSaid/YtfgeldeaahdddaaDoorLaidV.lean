/- What the rows' list of package-level variables gives a walk; a world that meets it. -/
import Derived.Test.YtfgeldeaahdddaaDoorRows
import Derived.Test.YtfgeldeaahdddaaDoorCards
import Derived.Test.YtfgeldeaahdddaaDoorTie
import Derived.Test.YtfgeldeaahdddaaDoorAs
import Derived.Test.YtfgeldeaahdddaaDoorOpen
import Derived.LaidLaws
import Derived.LaidHandle
import Derived.Stop.Joined
import Derived.Deep.DeepHandedRow
import Derived.JoinedCond
import Derived.KernelRfl
set_option linter.unusedVariables false
namespace Go.Proofs.YtfgeldeaahdddaaDoor
open Go.ChangeShapes Go.WideShapes Go.ChangeAt Go.RowKit Go.Deep Lx

theorem own : ownKnob Tryd.prog.godebug = none := by kernel_rfl
theorem laidOut : laidOutB Tryd.prog = true := by kernel_rfl
theorem cells5 : Tryd.prog.cellsOf 5 = 1 := by kernel_rfl
theorem et : Tryd.prog.globalNamed "errors.errorType" = some 0 := by kernel_rfl
theorem rt : (Tryd.prog.cutTypes.find? (·.1 == "internal/reflectlite.rtype")).map (·.2) = some 107 := by kernel_rfl
theorem oneRow : ((List.range 147).filter fun t => Tryd.prog.rowNamed t [101, 114, 114, 111, 114]) = [28] := by kernel_rfl
theorem typesSize : Tryd.prog.types.size = 147 := by kernel_rfl
theorem laid_of {W : World} (h : laidMetH Tryd.prog [("errors.errorType", Rows.laid_errors_errorType)] W) : Laid W := by
  have h' : laidMet Tryd.prog [] W ∧ handlesMet Tryd.prog [("errors.errorType", Rows.laid_errors_errorType)] W := h
  obtain ⟨name, u, ty, e1, e2, e3, e4, e5⟩ := h'.2 _ (List.mem_singleton.2 rfl)
  have en : name = [101, 114, 114, 111, 114] := (Option.some.inj e1).symm
  subst en
  obtain rfl := Option.some.inj (rt.symm.trans e2)
  have hm : ty ∈ (List.range 147).filter fun t => Tryd.prog.rowNamed t [101, 114, 114, 111, 114] := List.mem_filter.2 ⟨List.mem_range.2 (by rw [← typesSize]; exact e3), e4⟩
  rw [oneRow] at hm
  obtain rfl := List.mem_singleton.1 hm
  have hh : typeHandle Tryd.prog 28 = .pointer (some ⟨1, 28, none⟩) := by kernel_rfl
  rw [hh] at e5
  unfold Laid
  simpa using World.var?_cell et e5 0
noncomputable def laidWorld (os : Os) : World :=
  let w0 := World.holding Tryd.prog os ⟨#[], #[], []⟩
  { w0 with heap := w0.heap.modify 0 fun
      | .cells _ t frozen => .cells #[.iface 107 (.agg #[.pointer (some ⟨1, 28, none⟩)])] t frozen
      | o => o }
theorem laidWorld_met (os : Os) (args : Array Value) : laidMetH Tryd.prog [("errors.errorType", Rows.laid_errors_errorType)] ((laidWorld os).forCall (fun _ _ => 0) ⟨#[], args, []⟩).memory :=
  laidMetH_of_parts (laidMet_nil _ _) (by kernel_rfl)
end Go.Proofs.YtfgeldeaahdddaaDoor
