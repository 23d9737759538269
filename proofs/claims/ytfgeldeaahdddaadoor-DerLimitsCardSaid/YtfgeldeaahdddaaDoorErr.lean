/- fault.Code, fault.At and the laws' own 'code' and 'told', at a nil error, a code, a fault. -/
import Derived.Test.YtfgeldeaahdddaaDoorAs2
set_option linter.unusedVariables false
set_option linter.unusedSimpArgs false
namespace Go.Proofs.YtfgeldeaahdddaaDoor
open Go.RowKit Lx

theorem assertFF (v : Value) (w : World) : (Instr.typeAssert (.iface 70 v) 28 70 true).run Tryd.prog w = .ok (.tuple #[v, .bool true]) w := by kernel_rfl
theorem cell_new (w : World) (cs : Array Value) (t : TypeId) (j : Nat) : (w.alloc (.cells cs t)).cell? ⟨w.heap.size, j, none⟩ = cs[j]? := blk_cell (new_block w _) j
set_option maxHeartbeats 1000000 in
theorem Code_nil (w : World) : Calls Tryd.prog 32 #[.nilIface] w fun e w' => e = .returned (.tuple #[.int .i64 0, .bool false]) ∧ Below w.heap.size w w' := by
  go_enter Tryd.func32, Tryd.ntmps32
  go_wp2_with (go_at_call 45; go_must (refine (as_nil _ _).mono ?_; rintro e w1 ⟨rfl, rfl⟩))
  go_ret2
  exact ⟨rfl, bl_alloc (bl_refl _) _⟩
set_option maxHeartbeats 1000000 in
theorem Code_code (c : Int) (w : World) (hg : Laid w) : Calls Tryd.prog 32 #[.iface 56 (.int .i64 c)] w fun e w' => e = .returned (.tuple #[.int .i64 c, .bool true]) ∧ Below w.heap.size w w' := by
  have HG := Lib.hid hg
  clear hg
  go_enter Tryd.func32, Tryd.ntmps32
  go_wp2_with (go_at_call 45; go_must (refine (as_code c _ (.int .i64 0) _ (HG.out.move (bl_alloc (bl_refl _) _)) (cell_new _ _ _ 0) (by simp)).mono ?_; rintro e w1 ⟨rfl, w2, hb, rfl⟩; have hc := cell_move (hb.block _ (by simp)) (cell_new w #[.int .i64 0] 56 0); have HB := Lib.hid hb; clear hb))
  go_ret2
  exact ⟨rfl, bl_set (bl_then (bl_alloc (bl_refl _) _) HB.out) (Nat.le_refl _) _⟩
set_option maxHeartbeats 1000000 in
theorem Code_fault (c a : Int) (w : World) (hg : Laid w) : Calls Tryd.prog 32 #[.iface 70 (.agg #[.int .i64 c, .int .i64 a])] w fun e w' => e = .returned (.tuple #[.int .i64 c, .bool true]) ∧ Below w.heap.size w w' := by
  have HG := Lib.hid hg
  clear hg
  go_enter Tryd.func32, Tryd.ntmps32
  go_wp2_with (go_at_call 45; go_must (refine (as_fault c a _ (.int .i64 0) _ (HG.out.move (bl_alloc (bl_refl _) _)) (cell_new _ _ _ 0) (by simp)).mono ?_; rintro e w1 ⟨rfl, w2, hb, rfl⟩; have hc := cell_move (hb.block _ (by simp)) (cell_new w #[.int .i64 0] 56 0); have HB := Lib.hid hb; clear hb))
  go_ret2
  exact ⟨rfl, bl_set (bl_then (bl_alloc (bl_refl _) _) HB.out) (Nat.le_refl _) _⟩
set_option maxRecDepth 100000 in
set_option maxHeartbeats 1000000 in
theorem At_fault (c a : Int) (w : World) (h0 : 0 ≤ a) (h1 : a ≤ 1000000000000) : Calls Tryd.prog 26 #[.iface 70 (.agg #[.int .i64 c, .int .i64 a])] w fun e w' => e = .returned (.tuple #[.int .i64 a, .bool true]) ∧ Below w.heap.size w w' := by
  have tA := assertFF
  go_enter Tryd.func26, Tryd.ntmps26
  go_wp2
  refine wp_loop_rounds 1 ?_
  rw [rounds_succ]
  go_wp2
  go_ret2
  exact ⟨rfl, bl_alloc (bl_refl _) _⟩
set_option maxHeartbeats 1000000 in
theorem code_nil (w : World) : Calls Tryd.prog 18 #[.nilIface] w fun e w' => e = .returned (.int .i64 0) ∧ Below w.heap.size w w' := by
  go_enter Tryd.func18, Tryd.ntmps18
  go_wp2_with (go_at_call 32; go_must (refine (Code_nil _).mono ?_; rintro e w1 ⟨rfl, hb⟩; have HB := Lib.hid hb; clear hb))
  go_ret
  exact ⟨rfl, HB.out⟩
set_option maxHeartbeats 1000000 in
theorem code_code (c : Int) (w : World) (hg : Laid w) : Calls Tryd.prog 18 #[.iface 56 (.int .i64 c)] w fun e w' => e = .returned (.int .i64 c) ∧ Below w.heap.size w w' := by
  have HG := Lib.hid hg
  clear hg
  go_enter Tryd.func18, Tryd.ntmps18
  go_wp2_with (go_at_call 32; go_must (refine (Code_code c _ HG.out).mono ?_; rintro e w1 ⟨rfl, hb⟩; have HB := Lib.hid hb; clear hb))
  go_ret
  exact ⟨rfl, HB.out⟩
set_option maxHeartbeats 1000000 in
theorem code_fault (c a : Int) (w : World) (hg : Laid w) : Calls Tryd.prog 18 #[.iface 70 (.agg #[.int .i64 c, .int .i64 a])] w fun e w' => e = .returned (.int .i64 c) ∧ Below w.heap.size w w' := by
  have HG := Lib.hid hg
  clear hg
  go_enter Tryd.func18, Tryd.ntmps18
  go_wp2_with (go_at_call 32; go_must (refine (Code_fault c a _ HG.out).mono ?_; rintro e w1 ⟨rfl, hb⟩; have HB := Lib.hid hb; clear hb))
  go_ret
  exact ⟨rfl, HB.out⟩
set_option maxHeartbeats 1000000 in
/-- told, at a fault that is the one asked for. -/
theorem told_yes (c a : Int) (w : World) (hg : Laid w) (h0 : 0 ≤ a) (h1 : a ≤ 1000000000000) : Calls Tryd.prog 10 #[.iface 70 (.agg #[.int .i64 c, .int .i64 a]), .int .i64 c, .int .i64 a] w fun e w' => e = .returned (.bool true) ∧ Below w.heap.size w w' := by
  have HG := Lib.hid hg
  clear hg
  go_enter Tryd.func10, Tryd.ntmps10
  go_wp2_with (first | (go_at_call 26; go_must (refine (At_fault c a _ h0 h1).mono ?_; rintro e w1 ⟨rfl, hb⟩; have HB := Lib.hid hb; clear hb)) | (go_at_call 18; go_must (refine (code_fault c a _ (HG.out.move HB.out)).mono ?_; rintro e w2 ⟨rfl, hb⟩; have HB2 := Lib.hid hb; clear hb)))
  go_ret
  exact ⟨rfl, bl_then HB.out HB2.out⟩
end Go.Proofs.YtfgeldeaahdddaaDoor
