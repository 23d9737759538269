/- DerSame: the walk. -/
import Derived.Test.YtfgeldeaahdddaaDoorDerT
import Derived.Test.YtfgeldeaahdddaaDoorDerP
import Derived.Test.YtfgeldeaahdddaaDoorDerQ
import Derived.Test.YtfgeldeaahdddaaDoorDerR
import Derived.Deep.RegionHeld3
set_option linter.unusedVariables false
set_option linter.unusedSimpArgs false
namespace Go.Proofs.YtfgeldeaahdddaaDoor
open Go.RowKit Lx

/-- What goes on from call to call: the two boxes. -/
structure SW (w : World) (ca cb : Array Value) (W : World) : Prop where
  bl : Below w.heap.size w W
  b0 : W.heap[w.heap.size]? = some (.cells ca 33 (0, 0))
  b1 : W.heap[w.heap.size + 1]? = some (.cells cb 33 (0, 0))
theorem SW.step {w W W' : World} {ca cb : Array Value} (h : SW w ca cb W) (hb : Below W.heap.size W W') : SW w ca cb W' :=
  ⟨bl_then h.bl hb, (hb.block _ (blk_lt h.b0)).trans h.b0, (hb.block _ (blk_lt h.b1)).trans h.b1⟩
theorem SW.mk0 (w : World) (ca cb : Array Value) : SW w ca cb ((w.alloc (.cells ca 33)).alloc (.cells cb 33)) :=
  ⟨bl_alloc (bl_alloc (bl_refl _) _) _, alloc_keep (new_block _ _) _, new_block2 _ _ _⟩
theorem SW.cells {w W : World} {a0 a1 a2 b0 b1 b2 : Value} (h : SW w #[a0, a1, a2] #[b0, b1, b2] W) : W.cell? ⟨w.heap.size, 0, none⟩ = some a0 ∧ W.cell? ⟨w.heap.size, 1, none⟩ = some a1 ∧ W.cell? ⟨w.heap.size, 2, none⟩ = some a2
    ∧ W.cell? ⟨w.heap.size + 1, 0, none⟩ = some b0 ∧ W.cell? ⟨w.heap.size + 1, 1, none⟩ = some b1 ∧ W.cell? ⟨w.heap.size + 1, 2, none⟩ = some b2 :=
  ⟨blk_cell h.b0 0, blk_cell h.b0 1, blk_cell h.b0 2, blk_cell h.b1 0, blk_cell h.b1 1, blk_cell h.b1 2⟩
set_option maxRecDepth 100000 in
set_option maxHeartbeats 8000000 in
theorem same_calls (S S' : Nat → Prop) (a b : Tre) (v v' : Value) (w : World) (hg : Laid w) (hv : TreV S w v a) (hv' : TreV S' w v' b) (hfa : a.fit) (hfb : b.fit) :
    Calls Tryd.prog 4 #[v, v'] w fun e w' => e = .returned (.bool true) ∧ Below w.heap.size w w' := by
  have HG := Lib.hid hg
  have VA := Lib.hid (hv.mono (S' := fun k => S k ∧ k < w.heap.size) fun _ h1 h2 => ⟨h1, h2⟩)
  have VB := Lib.hid (hv'.mono (S' := fun k => S' k ∧ k < w.heap.size) fun _ h1 h2 => ⟨h1, h2⟩)
  have FA := Lib.hid hfa
  have FB := Lib.hid hfb
  obtain ⟨A1, c1, A2, c2, rfl, _⟩ := hv
  obtain ⟨A3, c3, A4, c4, rfl, _⟩ := hv'
  clear hg hfa hfb
  have C := Lib.hid (SW.mk0 w #[.int .u8 (a.tag.toNat : Int), .slice A1 a.bs.length c1, .slice A2 a.kids.length c2] #[.int .u8 (b.tag.toNat : Int), .slice A3 b.bs.length c3, .slice A4 b.kids.length c4])
  go_enter Tryd.func4, Tryd.ntmps4
  go_wp2_with fail
  refine (awake_any _ (HG.out.move C.out.bl)).mono ?_
  rintro e w1 ⟨rfl, hb1⟩
  replace C := Lib.hid (C.out.step hb1)
  clear hb1
  have hm := C.out.b0
  have hn := C.out.b1
  have m0 := blk_cell hm 0; have m1 := blk_cell hm 1; have m2 := blk_cell hm 2; simp only [List.getElem?_toArray, List.getElem?_cons_zero, List.getElem?_cons_succ] at m0 m1 m2
  have n0 := blk_cell hn 0; have n1 := blk_cell hn 1; have n2 := blk_cell hn 2; simp only [List.getElem?_toArray, List.getElem?_cons_zero, List.getElem?_cons_succ] at n0 n1 n2
  have hlm := blk_lt hm
  have hln := blk_lt hn
  clear hm hn
  go_wp2_with fail
  refine (some_few a _ _ _ (VA.out.old C.out.bl)).mono ?_
  rintro e w2 ⟨z1, rfl, hb2⟩
  replace C := Lib.hid (C.out.step hb2)
  clear hb2 m0 m1 m2 n0 n1 n2 hlm hln
  have hm := C.out.b0
  have hn := C.out.b1
  have m0 := blk_cell hm 0; have m1 := blk_cell hm 1; have m2 := blk_cell hm 2; simp only [List.getElem?_toArray, List.getElem?_cons_zero, List.getElem?_cons_succ] at m0 m1 m2
  have n0 := blk_cell hn 0; have n1 := blk_cell hn 1; have n2 := blk_cell hn 2; simp only [List.getElem?_toArray, List.getElem?_cons_zero, List.getElem?_cons_succ] at n0 n1 n2
  have hlm := blk_lt hm
  have hln := blk_lt hn
  clear hm hn
  cases z1
  · go_wp2_with fail
    refine (awake_any _ (HG.out.move C.out.bl)).mono ?_
    rintro e w3 ⟨rfl, hb3⟩
    replace C := Lib.hid (C.out.step hb3)
    go_wp2
    go_ret
    exact ⟨rfl, C.out.bl⟩
  · go_wp2_with fail
    refine (some_few b _ _ _ (VB.out.old C.out.bl)).mono ?_
    rintro e w3 ⟨z2, rfl, hb3⟩
    replace C := Lib.hid (C.out.step hb3)
    clear hb3 m0 m1 m2 n0 n1 n2 hlm hln
    have hm := C.out.b0
    have hn := C.out.b1
    have m0 := blk_cell hm 0; have m1 := blk_cell hm 1; have m2 := blk_cell hm 2; simp only [List.getElem?_toArray, List.getElem?_cons_zero, List.getElem?_cons_succ] at m0 m1 m2
    have n0 := blk_cell hn 0; have n1 := blk_cell hn 1; have n2 := blk_cell hn 2; simp only [List.getElem?_toArray, List.getElem?_cons_zero, List.getElem?_cons_succ] at n0 n1 n2
    have hlm := blk_lt hm
    have hln := blk_lt hn
    clear hm hn
    cases z2
    · go_wp2_with fail
      refine (awake_any _ (HG.out.move C.out.bl)).mono ?_
      rintro e w4 ⟨rfl, hb4⟩
      replace C := Lib.hid (C.out.step hb4)
      go_wp2
      go_ret
      exact ⟨rfl, C.out.bl⟩
    · go_wp2
      have hbe : (eqT a b == eqT a b) = true := by simp
      have Cd := Lib.hid (C.out.step (bl_drew (bl_refl _)))
      have T1 : True := trivial
      have T2 : True := trivial
      have T3 : True := trivial
      have T4 : True := trivial
      have T5 : True := trivial
      have T6 : True := trivial
      have T7 : True := trivial
      clear m0 m1 m2 n0 n1 n2
      go_region_held3 (fun w' => w'.cell? ⟨w.heap.size, 0, none⟩ = some (.int .u8 (a.tag.toNat : Int)) ∧ w'.cell? ⟨w.heap.size, 1, none⟩ = some (.slice A1 a.bs.length c1) ∧ w'.cell? ⟨w.heap.size, 2, none⟩ = some (.slice A2 a.kids.length c2)
        ∧ w'.cell? ⟨w.heap.size + 1, 0, none⟩ = some (.int .u8 (b.tag.toNat : Int)) ∧ w'.cell? ⟨w.heap.size + 1, 1, none⟩ = some (.slice A3 b.bs.length c3) ∧ w'.cell? ⟨w.heap.size + 1, 2, none⟩ = some (.slice A4 b.kids.length c4))
        (first | exact C10.out.cells | exact C9.out.cells | exact C8.out.cells | exact C7.out.cells | exact C6.out.cells | exact C5.out.cells | exact C4.out.cells | exact Cd.out.cells)
        (first
          | (have _t := T1; go_at_call 16; refine (given_calls a.depth a _ _ _ (Nat.le_refl _) FA.out (VA.out.old Cd.out.bl)).mono ?_; rintro e w4 ⟨v4, rfl, hv4, hb4⟩; have C4 := Lib.hid (Cd.out.step hb4); have V4 := Lib.hid hv4; clear T1 hv4 hb4)
          | (have _t := T2; go_at_call 16; refine (given_calls b.depth b _ _ _ (Nat.le_refl _) FB.out (VB.out.old C4.out.bl)).mono ?_; rintro e w5 ⟨v5, rfl, hv5, hb5⟩; have C5 := Lib.hid (C4.out.step hb5); have V5 := Lib.hid hv5; have V45 := Lib.hid (V4.out.old hb5); clear T2 hv5 hb5)
          | (have _t := T3; go_at_call 15; refine (derSame_any a b _ _ _ _ _ V45.out V5.out).mono ?_; rintro e w6 ⟨rfl, hb6⟩; have C6 := Lib.hid (C5.out.step hb6); clear T3 hb6)
          | (have _t := T4; go_at_call 17; refine (refSame_calls a.depth a b _ _ _ _ _ (Nat.le_refl _) (VA.out.old C6.out.bl) (VB.out.old C6.out.bl)).mono ?_; rintro e w7 ⟨rfl, hb7⟩; have C7 := Lib.hid (C6.out.step hb7); clear T4 hb7)
          | (have _t := T5; go_at_call 16; refine (given_calls a.depth a _ _ _ (Nat.le_refl _) FA.out (VA.out.old C7.out.bl)).mono ?_; rintro e w8 ⟨v8, rfl, hv8, hb8⟩; have C8 := Lib.hid (C7.out.step hb8); have V8 := Lib.hid hv8; clear T5 hv8 hb8)
          | (have _t := T6; go_at_call 16; refine (given_calls a.depth a _ _ _ (Nat.le_refl _) FA.out (VA.out.old C8.out.bl)).mono ?_; rintro e w9 ⟨v9, rfl, hv9, hb9⟩; have C9 := Lib.hid (C8.out.step hb9); have V9 := Lib.hid hv9; have V89 := Lib.hid (V8.out.old hb9); clear T6 hv9 hb9)
          | (have _t := T7; go_at_call 15; refine (derSame_any a a _ _ _ _ _ V89.out V9.out).mono ?_; rw [(eqT_iff a a).2 rfl]; rintro e w10 ⟨rfl, hb10⟩; have C10 := Lib.hid (C9.out.step hb10); clear T7 hb10))
      go_wp2
      go_ret
      exact ⟨rfl, C10.out.bl⟩
end Go.Proofs.YtfgeldeaahdddaaDoor
