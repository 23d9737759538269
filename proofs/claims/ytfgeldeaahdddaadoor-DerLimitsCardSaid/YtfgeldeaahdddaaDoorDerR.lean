/- The reference's Depth, Count and Weight return some number, whatever the tree's size; Few returns some bool. -/
import Derived.Test.YtfgeldeaahdddaaDoorDerQ
import Derived.BigGuardPart
set_option linter.unusedVariables false
set_option linter.unusedSimpArgs false
namespace Go.Proofs.YtfgeldeaahdddaaDoor
open Go.RowKit Lx

def SomeI (w : World) (e : Ending) (w' : World) : Prop := ∃ z : Int, e = .returned (.int .i64 z) ∧ Below w.heap.size w w'
def SomeB (w : World) (e : Ending) (w' : World) : Prop := ∃ z : Bool, e = .returned (.bool z) ∧ Below w.heap.size w w'
set_option maxHeartbeats 1000000 in
theorem someDepth_calls (m : Nat) : ∀ (n : Tre) (S : Nat → Prop) (v : Value) (w : World), n.depth ≤ m → TreV S w v n → Calls Tryd.prog 28 #[v] w (SomeI w) := by
  induction m with
  | zero => intro n S v w h; have := Tre.depth_eq n; omega
  | succ m ih =>
    intro n S v w hd hv
    obtain ⟨A1, c1, A, c, rfl, hc1, hc, hB, hK⟩ := hv
    obtain ⟨A', c', he, _, hlm, hat⟩ := kids_parts hK
    cases he
    obtain ⟨_, _, _, _, hlb, _⟩ := byts_parts hB
    have HAT := Lib.hid hat
    have HD := Lib.hid hd
    clear hK hat hB hd
    go_enter Tryd.func28, Tryd.ntmps28
    go_wp2
    go_loopw [3, 4] (fun a i wr => ∃ (k : Nat) (z : Int), k ≤ n.kids.length ∧ i = .int .i64 k ∧ a = .int .i64 z ∧ Below w.heap.size w wr ∧ wr.heap[w.heap.size]? = some (.cells #[.int .u8 (n.tag.toNat : Int), .slice A1 n.bs.length c1, .slice A n.kids.length c] 33 (0, 0))) (fun _ i _ => n.kids.length - (intOf i).toNat)
    case atStart => exact ⟨0, _, by omega, rfl, rfl, (Below.refl _ _).alloc (Nat.le_refl _) _, new_block _ _⟩
    case round =>
      obtain ⟨k, z, hk, rfl, rfl, hb, hx⟩ := hrel
      have q0 := blk_cell hx 0; have q1 := blk_cell hx 1; have q2 := blk_cell hx 2; simp only [List.getElem?_toArray, List.getElem?_cons_zero, List.getElem?_cons_succ] at q0 q1 q2
      have HX := Lib.hid hx
      clear hx
      by_cases hlt : k < n.kids.length
      · obtain ⟨ad, A1', c1', A2', c2', rfl, e0, e1, e2, l1, l2, r1, r2⟩ := HAT.out k hlt
        have d0 := cell_move (hb.block _ (World.block_lt_of_cell? w _ e0)) e0
        have d1 := cell_move (hb.block _ (World.block_lt_of_cell? w _ e1)) e1
        have d2 := cell_move (hb.block _ (World.block_lt_of_cell? w _ e2)) e2
        have hkd : (n.kids[k]).depth ≤ m := by have := Tre.depth_kid n k hlt; have := HD.out; omega
        have HB := Lib.hid hb
        have R1 := Lib.hid r1
        have R2 := Lib.hid r2
        clear e0 e1 e2 r1 r2 hb
        go_wp2_with (go_at_call 28; go_must (refine (ih (n.kids[k]) S _ _ hkd ⟨A1', c1', A2', c2', rfl, l1, l2, R1.out.old (by repeat (first | exact HB.out | apply bl_alloc)), R2.out.old (by repeat (first | exact HB.out | apply bl_alloc))⟩).mono ?_; rintro e w1 ⟨z1, rfl, hb1⟩; have HB1 := Lib.hid hb1; clear hb1))
        all_goals
          go_roundw
          case rel => exact ⟨k + 1, _, by omega, by go_num, rfl, bl_then HB.out HB1.out, (HB1.out.block _ (blk_lt HX.out)).trans HX.out⟩
          case measure => simp [intOf]; omega
      · have HB := Lib.hid hb
        clear hb
        go_wp2
        go_ret
        exact ⟨_, rfl, HB.out⟩
set_option maxHeartbeats 1000000 in
theorem someCount_calls (m : Nat) : ∀ (n : Tre) (S : Nat → Prop) (v : Value) (w : World), n.depth ≤ m → TreV S w v n → Calls Tryd.prog 29 #[v] w (SomeI w) := by
  induction m with
  | zero => intro n S v w h; have := Tre.depth_eq n; omega
  | succ m ih =>
    intro n S v w hd hv
    obtain ⟨A1, c1, A, c, rfl, hc1, hc, hB, hK⟩ := hv
    obtain ⟨A', c', he, _, hlm, hat⟩ := kids_parts hK
    cases he
    obtain ⟨_, _, _, _, hlb, _⟩ := byts_parts hB
    have HAT := Lib.hid hat
    have HD := Lib.hid hd
    clear hK hat hB hd
    go_enter Tryd.func29, Tryd.ntmps29
    go_wp2
    go_loopw [3, 4] (fun a i wr => ∃ (k : Nat) (z : Int), k ≤ n.kids.length ∧ i = .int .i64 k ∧ a = .int .i64 z ∧ Below w.heap.size w wr ∧ wr.heap[w.heap.size]? = some (.cells #[.int .u8 (n.tag.toNat : Int), .slice A1 n.bs.length c1, .slice A n.kids.length c] 33 (0, 0))) (fun _ i _ => n.kids.length - (intOf i).toNat)
    case atStart => exact ⟨0, _, by omega, rfl, rfl, (Below.refl _ _).alloc (Nat.le_refl _) _, new_block _ _⟩
    case round =>
      obtain ⟨k, z, hk, rfl, rfl, hb, hx⟩ := hrel
      have q0 := blk_cell hx 0; have q1 := blk_cell hx 1; have q2 := blk_cell hx 2; simp only [List.getElem?_toArray, List.getElem?_cons_zero, List.getElem?_cons_succ] at q0 q1 q2
      have HX := Lib.hid hx
      clear hx
      by_cases hlt : k < n.kids.length
      · obtain ⟨ad, A1', c1', A2', c2', rfl, e0, e1, e2, l1, l2, r1, r2⟩ := HAT.out k hlt
        have d0 := cell_move (hb.block _ (World.block_lt_of_cell? w _ e0)) e0
        have d1 := cell_move (hb.block _ (World.block_lt_of_cell? w _ e1)) e1
        have d2 := cell_move (hb.block _ (World.block_lt_of_cell? w _ e2)) e2
        have hkd : (n.kids[k]).depth ≤ m := by have := Tre.depth_kid n k hlt; have := HD.out; omega
        have HB := Lib.hid hb
        have R1 := Lib.hid r1
        have R2 := Lib.hid r2
        clear e0 e1 e2 r1 r2 hb
        go_wp2_with (go_at_call 29; go_must (refine (ih (n.kids[k]) S _ _ hkd ⟨A1', c1', A2', c2', rfl, l1, l2, R1.out.old (by repeat (first | exact HB.out | apply bl_alloc)), R2.out.old (by repeat (first | exact HB.out | apply bl_alloc))⟩).mono ?_; rintro e w1 ⟨z1, rfl, hb1⟩; have HB1 := Lib.hid hb1; clear hb1))
        all_goals
          go_roundw
          case rel => exact ⟨k + 1, _, by omega, by go_num, rfl, bl_then HB.out HB1.out, (HB1.out.block _ (blk_lt HX.out)).trans HX.out⟩
          case measure => simp [intOf]; omega
      · have HB := Lib.hid hb
        clear hb
        go_wp2
        go_ret
        exact ⟨_, rfl, HB.out⟩
set_option maxHeartbeats 1000000 in
theorem someWeight_calls (m : Nat) : ∀ (n : Tre) (S : Nat → Prop) (v : Value) (w : World), n.depth ≤ m → TreV S w v n → Calls Tryd.prog 30 #[v] w (SomeI w) := by
  induction m with
  | zero => intro n S v w h; have := Tre.depth_eq n; omega
  | succ m ih =>
    intro n S v w hd hv
    obtain ⟨A1, c1, A, c, rfl, hc1, hc, hB, hK⟩ := hv
    obtain ⟨A', c', he, _, hlm, hat⟩ := kids_parts hK
    cases he
    obtain ⟨_, _, _, _, hlb, _⟩ := byts_parts hB
    have HAT := Lib.hid hat
    have HD := Lib.hid hd
    clear hK hat hB hd
    go_enter Tryd.func30, Tryd.ntmps30
    go_wp2
    go_loopw [3, 4] (fun a i wr => ∃ (k : Nat) (z : Int), k ≤ n.kids.length ∧ i = .int .i64 k ∧ a = .int .i64 z ∧ Below w.heap.size w wr ∧ wr.heap[w.heap.size]? = some (.cells #[.int .u8 (n.tag.toNat : Int), .slice A1 n.bs.length c1, .slice A n.kids.length c] 33 (0, 0))) (fun _ i _ => n.kids.length - (intOf i).toNat)
    case atStart => exact ⟨0, _, by omega, rfl, rfl, (Below.refl _ _).alloc (Nat.le_refl _) _, new_block _ _⟩
    case round =>
      obtain ⟨k, z, hk, rfl, rfl, hb, hx⟩ := hrel
      have q0 := blk_cell hx 0; have q1 := blk_cell hx 1; have q2 := blk_cell hx 2; simp only [List.getElem?_toArray, List.getElem?_cons_zero, List.getElem?_cons_succ] at q0 q1 q2
      have HX := Lib.hid hx
      clear hx
      by_cases hlt : k < n.kids.length
      · obtain ⟨ad, A1', c1', A2', c2', rfl, e0, e1, e2, l1, l2, r1, r2⟩ := HAT.out k hlt
        have d0 := cell_move (hb.block _ (World.block_lt_of_cell? w _ e0)) e0
        have d1 := cell_move (hb.block _ (World.block_lt_of_cell? w _ e1)) e1
        have d2 := cell_move (hb.block _ (World.block_lt_of_cell? w _ e2)) e2
        have hkd : (n.kids[k]).depth ≤ m := by have := Tre.depth_kid n k hlt; have := HD.out; omega
        have HB := Lib.hid hb
        have R1 := Lib.hid r1
        have R2 := Lib.hid r2
        clear e0 e1 e2 r1 r2 hb
        go_wp2_with (go_at_call 30; go_must (refine (ih (n.kids[k]) S _ _ hkd ⟨A1', c1', A2', c2', rfl, l1, l2, R1.out.old (by repeat (first | exact HB.out | apply bl_alloc)), R2.out.old (by repeat (first | exact HB.out | apply bl_alloc))⟩).mono ?_; rintro e w1 ⟨z1, rfl, hb1⟩; have HB1 := Lib.hid hb1; clear hb1))
        all_goals
          go_roundw
          case rel => exact ⟨k + 1, _, by omega, by go_num, rfl, bl_then HB.out HB1.out, (HB1.out.block _ (blk_lt HX.out)).trans HX.out⟩
          case measure => simp [intOf]; omega
      · have HB := Lib.hid hb
        clear hb
        go_wp2
        go_ret
        exact ⟨_, rfl, HB.out⟩
theorem some_few (n : Tre) (S : Nat → Prop) (v : Value) (w : World) (hv : TreV S w v n) : Calls Tryd.prog 14 #[v] w (SomeB w) := by
  have V := Lib.hid (hv.mono (S' := fun k => S k ∧ k < w.heap.size) fun _ h1 h2 => ⟨h1, h2⟩)
  obtain ⟨A1, c1, A, c, rfl, hc1, hc, hB, hK⟩ := hv
  clear hB hK
  go_enter Tryd.func14, Tryd.ntmps14
  go_wp2_with fail
  refine (someDepth_calls n.depth n _ _ _ (Nat.le_refl _) (V.out.old (bl_alloc (bl_refl _) _))).mono ?_
  rintro e w1 ⟨z1, rfl, hb1⟩
  have hx1 := (hb1.block w.heap.size (by simp)).trans (new_block w _)
  have hl1 := blk_lt hx1
  have x0 := blk_cell hx1 0; have x1 := blk_cell hx1 1; have x2 := blk_cell hx1 2; simp only [List.getElem?_toArray, List.getElem?_cons_zero, List.getElem?_cons_succ] at x0 x1 x2
  have hbb := bl_then (bl_alloc (bl_refl w) _) hb1
  have Hx1 := Lib.hid hx1; have Hbb := Lib.hid hbb; clear hx1 hbb
  clear hb1
  by_cases hz1 : z1 ≤ 20
  · go_wp2_with fail
    refine (someCount_calls n.depth n _ _ _ (Nat.le_refl _) (V.out.old Hbb.out)).mono ?_
    rintro e w2 ⟨z2, rfl, hb2⟩
    clear x0 x1 x2
    have hx2 := (hb2.block w.heap.size hl1).trans Hx1.out
    have hl2 := blk_lt hx2
    have x0 := blk_cell hx2 0; have x1 := blk_cell hx2 1; have x2 := blk_cell hx2 2; simp only [List.getElem?_toArray, List.getElem?_cons_zero, List.getElem?_cons_succ] at x0 x1 x2
    have hbc := bl_then Hbb.out hb2
    have Hx2 := Lib.hid hx2; have Hbc := Lib.hid hbc; clear hx2 hbc
    clear hb2
    by_cases hz2 : z2 ≤ 200
    · go_wp2_with (go_at_call 30; go_must (refine (someWeight_calls n.depth n _ _ _ (Nat.le_refl _) (V.out.old Hbc.out)).mono ?_; rintro e w3 ⟨z3, rfl, hb3⟩; have hbd := bl_then Hbc.out hb3; have Hbd := Lib.hid hbd; clear hbd; clear hb3))
      all_goals go_ret
      all_goals exact ⟨_, rfl, Hbd.out⟩
    · go_wp2
      go_ret
      exact ⟨_, rfl, Hbc.out⟩
  · go_wp2
    go_ret
    exact ⟨_, rfl, Hbb.out⟩
end Go.Proofs.YtfgeldeaahdddaaDoor
