/- The fixed results. -/
import Derived.Test.YtgmnghnnlnohbaaWireD
set_option linter.unusedVariables false
set_option linter.unusedSimpArgs false
namespace Go.Proofs.Ytgmnghnnlnohbaa
open Go.RowKit Lx

theorem WSame_any (S S' : Nat → Prop) (v v' : Value) (xs ys : List UInt8) (w : World) (hr : Rep S w v (byts xs)) (hr' : Rep S' w v' (byts ys)) :
    Calls Try.prog 15 #[v, v'] w fun e w' => e = .returned (.bool (decide (xs = ys))) ∧ w' = w := by
  have HR := Lib.hid hr
  have HR' := Lib.hid hr'
  clear hr hr'
  go_enter Try.func15, Try.ntmps15
  go_wp2_with (go_at_call 18; go_must (refine (Equal_any S S' _ _ xs ys _ HR.out HR'.out).mono ?_; rintro e w1 ⟨rfl, rfl⟩))
  go_ret
  exact ⟨rfl, rfl⟩
theorem wid2 : wid 2 = true := by decide
theorem wid1 : wid 1 = true := by decide
theorem put1 (w : World) : Calls Try.prog 14 #[.int .i64 1, .int .u64 256] w fun e w' => e = .returned (.tuple #[.slice none 0 0, .bool false]) ∧ w' = w := by
  go_enter Try.func14, Try.ntmps14
  go_wp2_with (go_at_call 17; go_must (refine (width_any 1 _).mono ?_; rw [wid1]; rintro e w1 ⟨rfl, rfl⟩))
  go_ret2
  exact ⟨rfl, rfl⟩
def p2 : Nat → Array Value
  | 0 => #[.int .u8 0, .int .u8 0]
  | 1 => #[.int .u8 1, .int .u8 0]
  | _ => #[.int .u8 1, .int .u8 2]
theorem two_rep {w : World} {g : Nat} (h : w.heap[g]? = some (.cells #[.int .u8 1, .int .u8 2] 5 (0, 0))) : Rep (fun k => k = g) w (.slice (some ⟨g, 0, none⟩) 2 2) (byts [1, 2]) := by
  refine bytes_mk (xs := [1, 2]) (by simp) (by simp) (fun _ => rfl) fun i hi => ?_
  match i, hi with
  | 0, _ => exact blk_cell h 0
  | 1, _ => exact blk_cell h 1
set_option maxHeartbeats 2000000 in
theorem put2 (w : World) : Calls Try.prog 14 #[.int .i64 2, .int .u64 258] w fun e w' => e = .returned (.tuple #[.slice (some ⟨w.heap.size, 0, none⟩) 2 2, .bool true]) ∧ w'.heap[w.heap.size]? = some (.cells #[.int .u8 1, .int .u8 2] 5 (0, 0)) ∧ Below w.heap.size w w' := by
  have hmk : ∀ W : World, (Instr.makeSlice 22 (.int .i64 2) (.int .i64 2)).run Try.prog W = .ok (.slice (some ⟨W.heap.size, 0, none⟩) 2 2) (W.alloc (.cells #[.int .u8 0, .int .u8 0] 5)) := fun _ => by kernel_rfl
  go_enter Try.func14, Try.ntmps14
  go_wp2_with (go_at_call 17; go_must (refine (width_any 2 _).mono ?_; rw [wid2]; rintro e w1 ⟨rfl, rfl⟩))
  have hnb := new_block w1 (.cells #[.int .u8 0, .int .u8 0] 5)
  have HNB := Lib.hid hnb
  clear hnb
  go_loopw [26] (fun t wr => ∃ k : Nat, k ≤ 2 ∧ t = .int .i64 (k : Int) ∧ wr.heap[w1.heap.size]? = some (.cells (p2 k) 5 (0, 0)) ∧ Below w1.heap.size w1 wr) (fun t _ => 2 - (intOf t).toNat)
  case atStart => exact ⟨0, by omega, rfl, HNB.out, bl_alloc (bl_refl _) _⟩
  case round =>
    obtain ⟨k, hk, rfl, hh, hbl⟩ := hrel
    have HB := Lib.hid hbl
    have HH := Lib.hid hh
    clear hbl
    match k, hk with
    | 0, _ =>
      have s0 := blk_cell hh 0
      have z0 := blk_frozen hh 0
      simp only [p2, List.getElem?_toArray, List.getElem?_cons_zero, List.getElem?_cons_succ] at s0
      clear hh
      go_wp2
      go_roundw
      case rel => exact ⟨1, by omega, rfl, blk_set HH.out 0 _, bl_set HB.out (Nat.le_refl _) _⟩
      case measure => simp [intOf]
    | 1, _ =>
      have s1 := blk_cell hh 1
      have z1 := blk_frozen hh 1
      simp only [p2, List.getElem?_toArray, List.getElem?_cons_zero, List.getElem?_cons_succ] at s1
      clear hh
      go_wp2
      go_roundw
      case rel => exact ⟨2, by omega, rfl, blk_set HH.out 1 _, bl_set HB.out (Nat.le_refl _) _⟩
      case measure => simp [intOf]
    | 2, _ =>
      clear hh
      go_wp2
      go_ret2
      exact ⟨rfl, HH.out, HB.out⟩
end Go.Proofs.Ytgmnghnnlnohbaa
