import Derived.Test.YtfgeldeaahdddaaDoorProg
import Derived.Test.YtfgeldeaahdddaaDoorTree
set_option linter.unusedVariables false
set_option linter.unusedSimpArgs false
namespace Go.Proofs.YtfgeldeaahdddaaDoor
open Go.RowKit Lx

set_option maxHeartbeats 400000 in
theorem depth_calls (m : Nat) : ∀ (n : Tre) (S : Nat → Prop) (v : Value) (w : World), n.depth ≤ m → m ≤ 1000000000000 → TreV S w v n →
    Calls Tryd.prog 21 #[v] w fun e w' => e = .returned (.int .i64 (n.depth : Int)) ∧ Below w.heap.size w w' := by
  induction m with
  | zero => intro n S v w h; have := Tre.depth_eq n; omega
  | succ m ih =>
    intro n S v w hd hm hv
    obtain ⟨A1, c1, A, c, rfl, hc1, hc, hB, hK⟩ := hv
    obtain ⟨A', c', he, _, hlm, hat⟩ := kids_parts hK
    cases he
    have hdl : Tre.depthL n.kids ≤ m := by have := Tre.depth_eq n; omega
    have HK := Lib.hid hK
    have HAT := Lib.hid hat
    clear hK hat hB
    go_enter Tryd.func21, Tryd.ntmps21
    go_wp2
    go_loopw [3, 9] (fun mo i wr => ∃ k : Nat, k ≤ n.kids.length ∧ i = .int .i64 k ∧ mo = .int .i64 (Tre.depthL (n.kids.take k) : Int) ∧ Below w.heap.size w wr) (fun _ i _ => n.kids.length - (intOf i).toNat)
    case atStart => exact ⟨0, by omega, rfl, rfl, (Below.refl _ _).alloc (Nat.le_refl _) _⟩
    case round =>
      obtain ⟨k, hk, rfl, rfl, hb⟩ := hrel
      by_cases hlt : k < n.kids.length
      · have hb2 : Below w.heap.size w wr := hb
        obtain ⟨ad, A1', c1', A2', c2', rfl, e0, e1, e2, l1, l2, r1, r2⟩ := HAT.out k hlt
        have d0 := cell_move (hb.block _ (World.block_lt_of_cell? w _ e0)) e0
        have d1 := cell_move (hb.block _ (World.block_lt_of_cell? w _ e1)) e1
        have d2 := cell_move (hb.block _ (World.block_lt_of_cell? w _ e2)) e2
        have hkd : (n.kids[k]).depth ≤ m := by have := Tre.depth_kid n k hlt; omega
        have hb3 := Lib.hid hb
        clear e0 e1 e2
        have R1 := Lib.hid r1
        have R2 := Lib.hid r2
        clear r1 r2
        clear hb hb2
        go_wp2_with (go_at_call 21; go_must (refine (ih (n.kids[k]) S _ _ hkd (by omega) ⟨A1', c1', A2', c2', rfl, l1, l2, R1.out.old (by repeat (first | exact hb3.out | apply bl_alloc)), R2.out.old (by repeat (first | exact hb3.out | apply bl_alloc))⟩).mono ?_; rintro e w1 ⟨rfl, hb1⟩))
        go_roundw
        case rel =>
          have hs := Tre.take_snoc n.kids k hlt
          have h1 : Tre.depthL (n.kids.take (k + 1)) = max (Tre.depthL (n.kids.take k)) (n.kids[k]).depth := by rw [hs, Tre.depthL_append]; simp [Tre.depthL]
          refine ⟨k + 1, by omega, by go_num, ?_, bl_then (bl_alloc hb3.out _) hb1⟩
          rw [h1]
          exact int_eq (by split <;> omega)
        case measure => simp [intOf]; omega
      · have hke : k = n.kids.length := by omega
        have h1 : Tre.depthL (n.kids.take k) = Tre.depthL n.kids := by rw [hke, List.take_length]
        have h2 := Tre.depth_eq n
        have H1 := Lib.hid h1
        have H2 := Lib.hid h2
        have H3 := Lib.hid hb
        have hle := Tre.depthL_take n.kids k
        clear h1 h2 hb hke
        go_wp2
        go_ret
        exact ⟨ret_int (by have := H1.out; have := H2.out; omega), H3.out⟩
end Go.Proofs.YtfgeldeaahdddaaDoor
