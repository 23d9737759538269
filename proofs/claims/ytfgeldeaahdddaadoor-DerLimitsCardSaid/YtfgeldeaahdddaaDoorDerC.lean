import Derived.Test.YtfgeldeaahdddaaDoorProg
import Derived.Test.YtfgeldeaahdddaaDoorDerSpec
import Derived.KernelRfl
set_option linter.unusedVariables false
set_option linter.unusedSimpArgs false
namespace Go.Proofs.YtfgeldeaahdddaaDoor
open Go.RowKit Lx

set_option maxHeartbeats 400000 in
theorem refDepth_calls (m : Nat) : ∀ (n : Tre) (S : Nat → Prop) (v : Value) (w : World), n.depth ≤ m → n.depth ≤ 1000000000000 → TreV S w v n →
    Calls Tryd.prog 28 #[v] w fun e w' => e = .returned (.int .i64 (n.depth : Int)) ∧ Below w.heap.size w w' := by
  induction m with
  | zero => intro n S v w h; have := Tre.depth_eq n; omega
  | succ m ih =>
    intro n S v w hd hm hv
    obtain ⟨A1, c1, A, c, rfl, hc1, hc, hB, hK⟩ := hv
    obtain ⟨A', c', he, _, hlm, hat⟩ := kids_parts hK
    cases he
    obtain ⟨_, _, _, _, hlb, _⟩ := byts_parts hB
    have HAT := Lib.hid hat
    have HE := Lib.hid (Tre.depth_eq n)
    have HD := Lib.hid hd
    have hle : 1 + Tre.depthL n.kids ≤ 1000000000000 := by have := HE.out; omega
    clear hK hat hB hd
    go_enter Tryd.func28, Tryd.ntmps28
    go_wp2
    go_loopw [3, 4] (fun a i wr => ∃ k : Nat, k ≤ n.kids.length ∧ i = .int .i64 k ∧ a = .int .i64 ((1 + Tre.depthL (n.kids.take k) : Nat) : Int) ∧ Below w.heap.size w wr ∧ wr.heap[w.heap.size]? = some (.cells #[.int .u8 (n.tag.toNat : Int), .slice A1 n.bs.length c1, .slice A n.kids.length c] 33 (0, 0))) (fun _ i _ => n.kids.length - (intOf i).toNat)
    case atStart => exact ⟨0, by omega, rfl, rfl, (Below.refl _ _).alloc (Nat.le_refl _) _, new_block _ _⟩
    case round =>
      obtain ⟨k, hk, rfl, rfl, hb, hx⟩ := hrel
      have q1 := blk_cell hx 1
      have q2 := blk_cell hx 2
      have HX := Lib.hid hx
      simp only [List.getElem?_toArray, List.getElem?_cons_zero, List.getElem?_cons_succ] at q1 q2
      clear hx
      by_cases hlt : k < n.kids.length
      · obtain ⟨ad, A1', c1', A2', c2', rfl, e0, e1, e2, l1, l2, r1, r2⟩ := HAT.out k hlt
        have d0 := cell_move (hb.block _ (World.block_lt_of_cell? w _ e0)) e0
        have d1 := cell_move (hb.block _ (World.block_lt_of_cell? w _ e1)) e1
        have d2 := cell_move (hb.block _ (World.block_lt_of_cell? w _ e2)) e2
        have hkd : (n.kids[k]).depth ≤ m := by have := Tre.depth_kid n k hlt; have := HD.out; omega
        obtain ⟨s1, s2⟩ := Tre.depthL_step n.kids k hlt
        have hkc : (n.kids[k]).depth ≤ 1000000000000 := by omega
        have hbd : 1 + Tre.depthL (n.kids.take k) + (n.kids[k]).depth ≤ 2000000000000 := by omega
        have S1 := Lib.hid s1
        have HB := Lib.hid hb
        have R1 := Lib.hid r1
        have R2 := Lib.hid r2
        clear e0 e1 e2 r1 r2 s1 s2 hb
        go_wp2_with (go_at_call 28; go_must (refine (ih (n.kids[k]) S _ _ hkd hkc ⟨A1', c1', A2', c2', rfl, l1, l2, R1.out.old (by repeat (first | exact HB.out | apply bl_alloc)), R2.out.old (by repeat (first | exact HB.out | apply bl_alloc))⟩).mono ?_; rintro e w1 ⟨rfl, hb1⟩; have HB1 := Lib.hid hb1; clear hb1))
        all_goals
          go_roundw
          case rel => exact ⟨k + 1, by omega, by go_num, int_eq (by have := S1.out; omega), bl_then HB.out HB1.out, (HB1.out.block _ (blk_lt HX.out)).trans HX.out⟩
          case measure => simp [intOf]; omega
      · have HK := Lib.hid (show k = n.kids.length by omega)
        have HB := Lib.hid hb
        clear hb
        go_wp2
        go_ret
        refine ⟨ret_int ?_, HB.out⟩
        have h1 := HE.out
        rw [HK.out, List.take_length]
        omega

set_option maxHeartbeats 400000 in
theorem refCount_calls (m : Nat) : ∀ (n : Tre) (S : Nat → Prop) (v : Value) (w : World), n.depth ≤ m → n.count ≤ 1000000000000 → TreV S w v n →
    Calls Tryd.prog 29 #[v] w fun e w' => e = .returned (.int .i64 (n.count : Int)) ∧ Below w.heap.size w w' := by
  induction m with
  | zero => intro n S v w h; have := Tre.depth_eq n; omega
  | succ m ih =>
    intro n S v w hd hm hv
    obtain ⟨A1, c1, A, c, rfl, hc1, hc, hB, hK⟩ := hv
    obtain ⟨A', c', he, _, hlm, hat⟩ := kids_parts hK
    cases he
    obtain ⟨_, _, _, _, hlb, _⟩ := byts_parts hB
    have HAT := Lib.hid hat
    have HE := Lib.hid (Tre.count_eq n)
    have HD := Lib.hid hd
    have hle : 1 + Tre.countL n.kids ≤ 1000000000000 := by have := HE.out; omega
    clear hK hat hB hd
    go_enter Tryd.func29, Tryd.ntmps29
    go_wp2
    go_loopw [3, 4] (fun a i wr => ∃ k : Nat, k ≤ n.kids.length ∧ i = .int .i64 k ∧ a = .int .i64 ((1 + Tre.countL (n.kids.take k) : Nat) : Int) ∧ Below w.heap.size w wr ∧ wr.heap[w.heap.size]? = some (.cells #[.int .u8 (n.tag.toNat : Int), .slice A1 n.bs.length c1, .slice A n.kids.length c] 33 (0, 0))) (fun _ i _ => n.kids.length - (intOf i).toNat)
    case atStart => exact ⟨0, by omega, rfl, rfl, (Below.refl _ _).alloc (Nat.le_refl _) _, new_block _ _⟩
    case round =>
      obtain ⟨k, hk, rfl, rfl, hb, hx⟩ := hrel
      have q1 := blk_cell hx 1
      have q2 := blk_cell hx 2
      have HX := Lib.hid hx
      simp only [List.getElem?_toArray, List.getElem?_cons_zero, List.getElem?_cons_succ] at q1 q2
      clear hx
      by_cases hlt : k < n.kids.length
      · obtain ⟨ad, A1', c1', A2', c2', rfl, e0, e1, e2, l1, l2, r1, r2⟩ := HAT.out k hlt
        have d0 := cell_move (hb.block _ (World.block_lt_of_cell? w _ e0)) e0
        have d1 := cell_move (hb.block _ (World.block_lt_of_cell? w _ e1)) e1
        have d2 := cell_move (hb.block _ (World.block_lt_of_cell? w _ e2)) e2
        have hkd : (n.kids[k]).depth ≤ m := by have := Tre.depth_kid n k hlt; have := HD.out; omega
        obtain ⟨s1, s2⟩ := Tre.countL_step n.kids k hlt
        have hkc : (n.kids[k]).count ≤ 1000000000000 := by omega
        have hbd : 1 + Tre.countL (n.kids.take k) + (n.kids[k]).count ≤ 2000000000000 := by omega
        have S1 := Lib.hid s1
        have HB := Lib.hid hb
        have R1 := Lib.hid r1
        have R2 := Lib.hid r2
        clear e0 e1 e2 r1 r2 s1 s2 hb
        go_wp2_with (go_at_call 29; go_must (refine (ih (n.kids[k]) S _ _ hkd hkc ⟨A1', c1', A2', c2', rfl, l1, l2, R1.out.old (by repeat (first | exact HB.out | apply bl_alloc)), R2.out.old (by repeat (first | exact HB.out | apply bl_alloc))⟩).mono ?_; rintro e w1 ⟨rfl, hb1⟩; have HB1 := Lib.hid hb1; clear hb1))
        all_goals
          go_roundw
          case rel => exact ⟨k + 1, by omega, by go_num, int_eq (by have := S1.out; omega), bl_then HB.out HB1.out, (HB1.out.block _ (blk_lt HX.out)).trans HX.out⟩
          case measure => simp [intOf]; omega
      · have HK := Lib.hid (show k = n.kids.length by omega)
        have HB := Lib.hid hb
        clear hb
        go_wp2
        go_ret
        refine ⟨ret_int ?_, HB.out⟩
        have h1 := HE.out
        rw [HK.out, List.take_length]
        omega

set_option maxHeartbeats 400000 in
theorem refWeight_calls (m : Nat) : ∀ (n : Tre) (S : Nat → Prop) (v : Value) (w : World), n.depth ≤ m → n.weight ≤ 1000000000000 → TreV S w v n →
    Calls Tryd.prog 30 #[v] w fun e w' => e = .returned (.int .i64 (n.weight : Int)) ∧ Below w.heap.size w w' := by
  induction m with
  | zero => intro n S v w h; have := Tre.depth_eq n; omega
  | succ m ih =>
    intro n S v w hd hm hv
    obtain ⟨A1, c1, A, c, rfl, hc1, hc, hB, hK⟩ := hv
    obtain ⟨A', c', he, _, hlm, hat⟩ := kids_parts hK
    cases he
    obtain ⟨_, _, _, _, hlb, _⟩ := byts_parts hB
    have HAT := Lib.hid hat
    have HE := Lib.hid (Tre.weight_eq n)
    have HD := Lib.hid hd
    have hle : n.bs.length + Tre.weightL n.kids ≤ 1000000000000 := by have := HE.out; omega
    clear hK hat hB hd
    go_enter Tryd.func30, Tryd.ntmps30
    go_wp2
    go_loopw [3, 4] (fun a i wr => ∃ k : Nat, k ≤ n.kids.length ∧ i = .int .i64 k ∧ a = .int .i64 ((n.bs.length + Tre.weightL (n.kids.take k) : Nat) : Int) ∧ Below w.heap.size w wr ∧ wr.heap[w.heap.size]? = some (.cells #[.int .u8 (n.tag.toNat : Int), .slice A1 n.bs.length c1, .slice A n.kids.length c] 33 (0, 0))) (fun _ i _ => n.kids.length - (intOf i).toNat)
    case atStart => exact ⟨0, by omega, rfl, rfl, (Below.refl _ _).alloc (Nat.le_refl _) _, new_block _ _⟩
    case round =>
      obtain ⟨k, hk, rfl, rfl, hb, hx⟩ := hrel
      have q1 := blk_cell hx 1
      have q2 := blk_cell hx 2
      have HX := Lib.hid hx
      simp only [List.getElem?_toArray, List.getElem?_cons_zero, List.getElem?_cons_succ] at q1 q2
      clear hx
      by_cases hlt : k < n.kids.length
      · obtain ⟨ad, A1', c1', A2', c2', rfl, e0, e1, e2, l1, l2, r1, r2⟩ := HAT.out k hlt
        have d0 := cell_move (hb.block _ (World.block_lt_of_cell? w _ e0)) e0
        have d1 := cell_move (hb.block _ (World.block_lt_of_cell? w _ e1)) e1
        have d2 := cell_move (hb.block _ (World.block_lt_of_cell? w _ e2)) e2
        have hkd : (n.kids[k]).depth ≤ m := by have := Tre.depth_kid n k hlt; have := HD.out; omega
        obtain ⟨s1, s2⟩ := Tre.weightL_step n.kids k hlt
        have hkc : (n.kids[k]).weight ≤ 1000000000000 := by omega
        have hbd : n.bs.length + Tre.weightL (n.kids.take k) + (n.kids[k]).weight ≤ 2000000000000 := by omega
        have S1 := Lib.hid s1
        have HB := Lib.hid hb
        have R1 := Lib.hid r1
        have R2 := Lib.hid r2
        clear e0 e1 e2 r1 r2 s1 s2 hb
        go_wp2_with (go_at_call 30; go_must (refine (ih (n.kids[k]) S _ _ hkd hkc ⟨A1', c1', A2', c2', rfl, l1, l2, R1.out.old (by repeat (first | exact HB.out | apply bl_alloc)), R2.out.old (by repeat (first | exact HB.out | apply bl_alloc))⟩).mono ?_; rintro e w1 ⟨rfl, hb1⟩; have HB1 := Lib.hid hb1; clear hb1))
        all_goals
          go_roundw
          case rel => exact ⟨k + 1, by omega, by go_num, int_eq (by have := S1.out; omega), bl_then HB.out HB1.out, (HB1.out.block _ (blk_lt HX.out)).trans HX.out⟩
          case measure => simp [intOf]; omega
      · have HK := Lib.hid (show k = n.kids.length by omega)
        have HB := Lib.hid hb
        clear hb
        go_wp2
        go_ret
        refine ⟨ret_int ?_, HB.out⟩
        have h1 := HE.out
        rw [HK.out, List.take_length]
        omega

set_option maxHeartbeats 400000 in
theorem derCount_calls (m : Nat) : ∀ (n : Tre) (S : Nat → Prop) (v : Value) (w : World), n.depth ≤ m → n.count ≤ 1000000000000 → TreV S w v n →
    Calls Tryd.prog 22 #[v] w fun e w' => e = .returned (.int .i64 (n.count : Int)) ∧ Below w.heap.size w w' := by
  induction m with
  | zero => intro n S v w h; have := Tre.depth_eq n; omega
  | succ m ih =>
    intro n S v w hd hm hv
    obtain ⟨A1, c1, A, c, rfl, hc1, hc, hB, hK⟩ := hv
    obtain ⟨A', c', he, _, hlm, hat⟩ := kids_parts hK
    cases he
    obtain ⟨_, _, _, _, hlb, _⟩ := byts_parts hB
    have HAT := Lib.hid hat
    have HE := Lib.hid (Tre.count_eq n)
    have HD := Lib.hid hd
    have hle : 1 + Tre.countL n.kids ≤ 1000000000000 := by have := HE.out; omega
    clear hK hat hB hd
    go_enter Tryd.func22, Tryd.ntmps22
    go_wp2
    go_loopw [3, 9] (fun a i wr => ∃ k : Nat, k ≤ n.kids.length ∧ i = .int .i64 k ∧ a = .int .i64 ((1 + Tre.countL (n.kids.take k) : Nat) : Int) ∧ Below w.heap.size w wr) (fun _ i _ => n.kids.length - (intOf i).toNat)
    case atStart => exact ⟨0, by omega, rfl, rfl, (Below.refl _ _).alloc (Nat.le_refl _) _⟩
    case round =>
      obtain ⟨k, hk, rfl, rfl, hb⟩ := hrel
      by_cases hlt : k < n.kids.length
      · obtain ⟨ad, A1', c1', A2', c2', rfl, e0, e1, e2, l1, l2, r1, r2⟩ := HAT.out k hlt
        have d0 := cell_move (hb.block _ (World.block_lt_of_cell? w _ e0)) e0
        have d1 := cell_move (hb.block _ (World.block_lt_of_cell? w _ e1)) e1
        have d2 := cell_move (hb.block _ (World.block_lt_of_cell? w _ e2)) e2
        have hkd : (n.kids[k]).depth ≤ m := by have := Tre.depth_kid n k hlt; have := HD.out; omega
        obtain ⟨s1, s2⟩ := Tre.countL_step n.kids k hlt
        have hkc : (n.kids[k]).count ≤ 1000000000000 := by omega
        have hbd : 1 + Tre.countL (n.kids.take k) + (n.kids[k]).count ≤ 2000000000000 := by omega
        have S1 := Lib.hid s1
        have HB := Lib.hid hb
        have R1 := Lib.hid r1
        have R2 := Lib.hid r2
        clear e0 e1 e2 r1 r2 s1 s2 hb
        go_wp2_with (go_at_call 22; go_must (refine (ih (n.kids[k]) S _ _ hkd hkc ⟨A1', c1', A2', c2', rfl, l1, l2, R1.out.old (by repeat (first | exact HB.out | apply bl_alloc)), R2.out.old (by repeat (first | exact HB.out | apply bl_alloc))⟩).mono ?_; rintro e w1 ⟨rfl, hb1⟩; have HB1 := Lib.hid hb1; clear hb1))
        all_goals
          go_roundw
          case rel => exact ⟨k + 1, by omega, by go_num, int_eq (by have := S1.out; omega), bl_then (bl_alloc HB.out _) HB1.out⟩
          case measure => simp [intOf]; omega
      · have HK := Lib.hid (show k = n.kids.length by omega)
        have HB := Lib.hid hb
        clear hb
        go_wp2
        go_ret
        refine ⟨ret_int ?_, HB.out⟩
        have h1 := HE.out
        rw [HK.out, List.take_length]
        omega
end Go.Proofs.YtfgeldeaahdddaaDoor
