/- The fixed results are as the documentation gives them. -/
import Derived.Test.YtfgeldeaahdddaaDoorDerO
import Derived.Test.YtfgeldeaahdddaaDoorErr
import Derived.Test.YtfgeldeaahdddaaDoorDerE
set_option linter.unusedVariables false
set_option linter.unusedSimpArgs false
namespace Go.Proofs.YtfgeldeaahdddaaDoor
open Go.RowKit Lx

def nT : Tre := ⟨48, [], [⟨2, [5], []⟩]⟩
def zT : Tre := ⟨0, [], []⟩
def l5 : List UInt8 := [48, 3, 2, 1, 5]
def l4 : List UInt8 := [4, 129, 1, 0]
theorem nT_text : nT.text = l5 := by
  have h2 : Tre.text ⟨2, [5], []⟩ = [2, 1, 5] := by simp [Tre.text, Tre.textL, lenEnc]
  simp [nT, Tre.text, Tre.textL, h2, lenEnc, l5]
theorem nT_depth : nT.depth = 2 := by simp [nT, Tre.depth, Tre.depthL]
theorem nT_count : nT.count = 2 := by simp [nT, Tre.count, Tre.countL]
theorem nT_valid : validB nT = true := by
  unfold validB
  rw [nT_text, nT_depth]
  simp [nT, l5, Tre.shaped, Tre.shapedL, tagOk, comp]
theorem zT_valid : validB zT = false := by
  unfold validB
  simp [zT, Tre.shaped, tagOk]
theorem parse5 : pparse l5 = ⟨nT, 5, 0, 0⟩ := by kernel_rfl
theorem parse4 : pparse l4 = .err 6 1 := by kernel_rfl
theorem nz : eqT nT zT = false := eqT_no _ _ (by unfold nT zT; intro h; injection h with h; cases h)
theorem NodeE_ok {S : Nat → Prop} {w : World} {v : Value} {n : Tre} {x a : Nat} (h : NodeE S w v ⟨n, x, 0, a⟩) : ∃ u, v = .tuple #[u, .nilIface] ∧ TreV S w u n := by
  obtain ⟨A1, c1, A2, c2, rfl, h1, h2, h3, h4⟩ := h
  exact ⟨_, rfl, A1, c1, A2, c2, rfl, h1, h2, h3, h4⟩
theorem NodeE_no {S : Nat → Prop} {w : World} {v : Value} {c a : Nat} (hc : c ≠ 0) (h : NodeE S w v (.err c a)) : ∃ u, v = .tuple #[u, .iface 70 (.agg #[.int .i64 (c : Int), .int .i64 (a : Int)])] ∧ TreV S w u zT := by
  obtain ⟨A1, c1, A2, c2, rfl, h1, h2, h3, h4⟩ := h
  refine ⟨_, by rw [show errV (PR.err c a).code (PR.err c a).at_ = _ from errV_pos c a hc]; rfl, A1, c1, A2, c2, rfl, h1, h2, h3, h4⟩
/-- The made node in memory: blocks g, g + 1. -/
theorem nT_rep {W : World} {g : Nat} (h0 : W.heap[g]? = some (.cells #[.int .u8 5] 5 (0, 0))) (h1 : W.heap[g + 1]? = some (.cells #[.int .u8 2, .slice (some ⟨g, 0, none⟩) 1 1, .slice none 0 0] 26 (0, 0))) :
    TreV (fun k => k = g ∨ k = g + 1) W (.agg #[.int .u8 48, .slice none 0 0, .slice (some ⟨g + 1, 0, none⟩) 1 1]) nT := by
  refine ⟨none, 0, some ⟨g + 1, 0, none⟩, 1, rfl, Nat.le_refl _, Nat.le_refl _, .nil _ _ _, ?_⟩
  refine .sl _ 1 1 3 _ (fun j => #[Value.int .u8 2, .slice (some ⟨g, 0, none⟩) 1 1, .slice none 0 0].getD j (.bool false)) (by rw [Tre.cellsL_length]; decide) (by rw [Tre.cellsL_length]; rfl) (Nat.le_refl _) (by decide) (.inr rfl) (fun j hj => ?_) (fun j hj => ?_)
  · have hj3 : j < 3 := by rw [Tre.cellsL_length] at hj; exact hj
    match j, hj3 with
    | 0, _ => exact blk_cell h1 0
    | 1, _ => exact blk_cell h1 1
    | 2, _ => exact blk_cell h1 2
  · have hj3 : j < 3 := by rw [Tre.cellsL_length] at hj; exact hj
    have hb : Rep (fun k => k = g ∨ k = g + 1) W (.slice (some ⟨g, 0, none⟩) 1 1) (byts [5]) := bytes_mk (xs := [5]) (by simp) (by simp) (fun _ => .inl rfl) fun i hi => by
      have : i = 0 := by simpa using hi
      subst this
      exact blk_cell h0 0
    match j, hj3 with
    | 0, _ => exact .val _
    | 1, _ => exact hb
    | 2, _ => exact .nil _ _ _
theorem zT_rep (S : Nat → Prop) (W : World) : TreV S W (.agg #[.int .u8 0, .slice none 0 0, .slice none 0 0]) zT := ⟨none, 0, none, 0, rfl, Nat.le_refl _, Nat.le_refl _, .nil _ _ _, .nil _ _ _⟩
/-- What goes on from call to call. -/
structure AW (w W : World) : Prop where
  bl : Below w.heap.size w W
  b0 : W.heap[w.heap.size]? = some (.cells #[.int .u8 5] 5 (0, 0))
  b1 : W.heap[w.heap.size + 1]? = some (.cells #[.int .u8 2, .slice (some ⟨w.heap.size, 0, none⟩) 1 1, .slice none 0 0] 26 (0, 0))
  b2 : W.heap[w.heap.size + 2]? = some (.cells #[.int .u8 48, .slice none 0 0, .slice (some ⟨w.heap.size + 1, 0, none⟩) 1 1] 26 (0, 0))
theorem AW.step {w W W' : World} (h : AW w W) (hb : Below W.heap.size W W') : AW w W' :=
  ⟨bl_then h.bl hb, (hb.block _ (blk_lt h.b0)).trans h.b0, (hb.block _ (blk_lt h.b1)).trans h.b1, (hb.block _ (blk_lt h.b2)).trans h.b2⟩
theorem AW.alloc {w W : World} (h : AW w W) (o : Obj) : AW w (W.alloc o) := h.step (bl_alloc (bl_refl _) _)
theorem AW.n {w W : World} (h : AW w W) : TreV (fun k => k = w.heap.size ∨ k = w.heap.size + 1) W (.agg #[.int .u8 48, .slice none 0 0, .slice (some ⟨w.heap.size + 1, 0, none⟩) 1 1]) nT := nT_rep h.b0 h.b1
theorem AW.mk0 (w : World) : AW w (((w.alloc (.cells #[.int .u8 5] 5)).alloc (.cells #[.int .u8 2, .slice (some ⟨w.heap.size, 0, none⟩) 1 1, .slice none 0 0] 26)).alloc (.cells #[.int .u8 48, .slice none 0 0, .slice (some ⟨w.heap.size + 1, 0, none⟩) 1 1] 26)) :=
  ⟨bl_alloc (bl_alloc (bl_alloc (bl_refl _) _) _) _, alloc_keep (alloc_keep (new_block _ _) _) _, alloc_keep (new_block2 _ _ _) _, by simpa using new_block ((w.alloc _).alloc _) _⟩

/-- .. with the node that was parsed, and the encoding. -/
structure BW (w : World) (g : Nat) (mc : Array Value) (bv : Value) (W : World) : Prop where
  aw : AW w W
  m : W.heap[g]? = some (.cells mc 26 (0, 0))
  mt : TreV (fun _ => True) W (.agg mc) nT
  br : Rep (fun _ => True) W bv (byts l5)
theorem BW.step {w : World} {g : Nat} {mc : Array Value} {bv : Value} {W W' : World} (h : BW w g mc bv W) (hb : Below W.heap.size W W') : BW w g mc bv W' :=
  ⟨h.aw.step hb, (hb.block _ (blk_lt h.m)).trans h.m, h.mt.old hb, h.br.old hb⟩
theorem BW.alloc {w : World} {g : Nat} {mc : Array Value} {bv : Value} {W : World} (h : BW w g mc bv W) (o : Obj) : BW w g mc bv (W.alloc o) := h.step (bl_alloc (bl_refl _) _)
set_option maxRecDepth 100000 in
set_option maxHeartbeats 8000000 in
theorem awake_any (w : World) (hg : Laid w) : Calls Tryd.prog 7 #[] w fun e w' => e = .returned (.bool true) ∧ Below w.heap.size w w' := by
  have HG := Lib.hid hg
  clear hg
  have A0 := Lib.hid (AW.mk0 w)
  go_enter Tryd.func7, Tryd.ntmps7
  have he1 := Encode_yes nT _ _ _ nT_valid A0.out.n
  rw [nT_text] at he1
  have HE1 := Lib.hid he1
  clear he1
  go_wp2_with fail
  refine HE1.out.mono ?_
  rintro e w1 ⟨v1, rfl, ho1, hb1⟩
  have A1 := Lib.hid (A0.out.step hb1)
  have hov := ho1.bytes_slice
  obtain ⟨p1, q1, rfl, hq1, _⟩ := hov
  have HR1 := Lib.hid ho1.bytes_rep
  clear hb1 ho1 A0 HE1
  go_wp2_with fail
  refine (Parse_any (fun k => w1.heap.size ≤ k) _ _ l5 _ (own_lit_bytes' l5 rfl (Nat.le_refl _) rfl (by decide) rfl).bytes_rep (by decide)).mono ?_
  rw [parse5]
  rintro e w2 ⟨v, rfl, hn2, hb2⟩
  have hnok := NodeE_ok hn2
  obtain ⟨u2, rfl, hm2⟩ := hnok
  have A2 := Lib.hid ((A1.out.alloc _).step hb2)
  have HR2 := Lib.hid (HR1.out.old ((bl_alloc (bl_refl _) _).trans (hb2.mono (by simp))))
  have HM2 := Lib.hid hm2
  have hm2' := hm2
  obtain ⟨B1, k1, B2, k2, rfl, hk1, hk2, _, _⟩ := hm2'
  have C2' : BW w w2.heap.size #[.int .u8 (nT.tag.toNat : Int), .slice B1 nT.bs.length k1, .slice B2 nT.kids.length k2] (.slice p1 l5.length q1) (w2.alloc (.cells #[.int .u8 (nT.tag.toNat : Int), .slice B1 nT.bs.length k1, .slice B2 nT.kids.length k2] 26)) :=
    ⟨A2.out.alloc _, new_block _ _, (HM2.out.mono (fun _ _ _ => trivial)).old (bl_alloc (bl_refl _) _), (HR2.out.mono (fun _ _ _ => trivial)).old (bl_alloc (bl_refl _) _)⟩
  have C2 := Lib.hid C2'
  clear hb2 hn2 hm2 C2' A1 A2 HR1 HR2 HM2
  go_wp2_with fail
  refine (Parse_any (fun k => w2.heap.size + 1 ≤ k) _ _ l4 _ (own_lit_bytes' (B := w2.heap.size + 1) l4 (by simp) (by simp) rfl (by decide) rfl).bytes_rep (by decide)).mono ?_
  rw [parse4]
  rintro e w3 ⟨v, rfl, hn3, hb3⟩
  have hnok := NodeE_no (by decide) hn3
  obtain ⟨u3, rfl, B3, k3, B4, k4, rfl, _⟩ := hnok
  have C3 := Lib.hid ((C2.out.alloc _).step hb3)
  clear hn3 hb3 C2
  go_wp2_with fail
  refine (Encode_no zT (fun _ => True) _ _ (by decide) (by simp [zT, Tre.text, Tre.textL, lenEnc]) zT_valid (zT_rep _ _)).mono ?_
  rintro e w4 ⟨rfl, hb4⟩
  have C4 := Lib.hid ((C3.out.alloc _).step hb4)
  clear hb4 C3
  go_wp2_with fail
  refine (Same01_any (fun _ => True) (fun k => w4.heap.size ≤ k) _ _ l5 l5 _ (C4.out.alloc _).br (own_lit_bytes' l5 rfl (Nat.le_refl _) rfl (by decide) rfl).bytes_rep).mono ?_
  rw [show decide (l5 = l5) = true by decide]
  rintro e w5 ⟨rfl, n5, rfl⟩
  have C5 := Lib.hid ((C4.out.alloc (.cells #[.int .u8 48, .int .u8 3, .int .u8 2, .int .u8 1, .int .u8 5] 5)).step (bl_drewN (bl_refl _) n5))
  have hm := C4.out.m
  have hn := C4.out.aw.b2
  have m0 := blk_cell hm 0; have m1 := blk_cell hm 1; have m2 := blk_cell hm 2; simp only [List.getElem?_toArray, List.getElem?_cons_zero, List.getElem?_cons_succ] at m0 m1 m2
  have n0 := blk_cell hn 0; have n1 := blk_cell hn 1; have n2 := blk_cell hn 2; simp only [List.getElem?_toArray, List.getElem?_cons_zero, List.getElem?_cons_succ] at n0 n1 n2
  have hlm := blk_lt hm
  have hln := blk_lt hn
  go_wp2_with fail
  refine (derSame_any nT nT _ _ _ _ _ C5.out.mt C5.out.aw.n).mono ?_
  rw [(eqT_iff nT nT).2 rfl]
  rintro e w6 ⟨rfl, hb6⟩
  have C6 := Lib.hid (C5.out.step hb6)
  clear hm hn m0 m1 m2 n0 n1 n2 hlm hln
  have hm := C6.out.m
  have hn := C6.out.aw.b2
  have m0 := blk_cell hm 0; have m1 := blk_cell hm 1; have m2 := blk_cell hm 2; simp only [List.getElem?_toArray, List.getElem?_cons_zero, List.getElem?_cons_succ] at m0 m1 m2
  have n0 := blk_cell hn 0; have n1 := blk_cell hn 1; have n2 := blk_cell hn 2; simp only [List.getElem?_toArray, List.getElem?_cons_zero, List.getElem?_cons_succ] at n0 n1 n2
  have hlm := blk_lt hm
  have hln := blk_lt hn
  clear hb6 C4 C5
  go_wp2_with fail
  refine (told_yes 6 1 w6 (HG.out.move C6.out.aw.bl) (by decide) (by decide)).mono ?_
  rintro e w7 ⟨rfl, hb7⟩
  have C7 := Lib.hid (C6.out.step hb7)
  clear hm hn m0 m1 m2 n0 n1 n2 hlm hln
  have hm := C7.out.m
  have hn := C7.out.aw.b2
  have m0 := blk_cell hm 0; have m1 := blk_cell hm 1; have m2 := blk_cell hm 2; simp only [List.getElem?_toArray, List.getElem?_cons_zero, List.getElem?_cons_succ] at m0 m1 m2
  have n0 := blk_cell hn 0; have n1 := blk_cell hn 1; have n2 := blk_cell hn 2; simp only [List.getElem?_toArray, List.getElem?_cons_zero, List.getElem?_cons_succ] at n0 n1 n2
  have hlm := blk_lt hm
  have hln := blk_lt hn
  clear hb7 C6
  go_wp2_with fail
  refine (code_code 12 w7 (HG.out.move C7.out.aw.bl)).mono ?_
  rintro e w8 ⟨rfl, hb8⟩
  have C8 := Lib.hid (C7.out.step hb8)
  clear hm hn m0 m1 m2 n0 n1 n2 hlm hln
  have hm := C8.out.m
  have hn := C8.out.aw.b2
  have m0 := blk_cell hm 0; have m1 := blk_cell hm 1; have m2 := blk_cell hm 2; simp only [List.getElem?_toArray, List.getElem?_cons_zero, List.getElem?_cons_succ] at m0 m1 m2
  have n0 := blk_cell hn 0; have n1 := blk_cell hn 1; have n2 := blk_cell hn 2; simp only [List.getElem?_toArray, List.getElem?_cons_zero, List.getElem?_cons_succ] at n0 n1 n2
  have hlm := blk_lt hm
  have hln := blk_lt hn
  clear hb8 C7
  go_wp2_with fail
  refine (Valid_any nT _ _ w8 (by rw [nT_depth]; decide) (by rw [nT_text]; decide) C8.out.aw.n).mono ?_
  rw [nT_valid]
  rintro e w9 ⟨rfl, hb9⟩
  have C9 := Lib.hid (C8.out.step hb9)
  clear hm hn m0 m1 m2 n0 n1 n2 hlm hln
  have hm := C9.out.m
  have hn := C9.out.aw.b2
  have m0 := blk_cell hm 0; have m1 := blk_cell hm 1; have m2 := blk_cell hm 2; simp only [List.getElem?_toArray, List.getElem?_cons_zero, List.getElem?_cons_succ] at m0 m1 m2
  have n0 := blk_cell hn 0; have n1 := blk_cell hn 1; have n2 := blk_cell hn 2; simp only [List.getElem?_toArray, List.getElem?_cons_zero, List.getElem?_cons_succ] at n0 n1 n2
  have hlm := blk_lt hm
  have hln := blk_lt hn
  clear hb9 C8
  go_wp2_with fail
  refine (depth_calls 1000000000000 nT _ _ w9 (by rw [nT_depth]; decide) (Nat.le_refl _) C9.out.aw.n).mono ?_
  rw [nT_depth]
  rintro e w10 ⟨rfl, hb10⟩
  have C10 := Lib.hid (C9.out.step hb10)
  clear hm hn m0 m1 m2 n0 n1 n2 hlm hln
  have hm := C10.out.m
  have hn := C10.out.aw.b2
  have m0 := blk_cell hm 0; have m1 := blk_cell hm 1; have m2 := blk_cell hm 2; simp only [List.getElem?_toArray, List.getElem?_cons_zero, List.getElem?_cons_succ] at m0 m1 m2
  have n0 := blk_cell hn 0; have n1 := blk_cell hn 1; have n2 := blk_cell hn 2; simp only [List.getElem?_toArray, List.getElem?_cons_zero, List.getElem?_cons_succ] at n0 n1 n2
  have hlm := blk_lt hm
  have hln := blk_lt hn
  clear hb10 C9
  go_wp2_with fail
  refine (derCount_calls 1000000000000 nT _ _ w10 (by rw [nT_depth]; decide) (by rw [nT_count]; decide) C10.out.aw.n).mono ?_
  rw [nT_count]
  rintro e w11 ⟨rfl, hb11⟩
  have C11 := Lib.hid (C10.out.step hb11)
  clear hm hn m0 m1 m2 n0 n1 n2 hlm hln
  have hm := C11.out.m
  have hn := C11.out.aw.b2
  have m0 := blk_cell hm 0; have m1 := blk_cell hm 1; have m2 := blk_cell hm 2; simp only [List.getElem?_toArray, List.getElem?_cons_zero, List.getElem?_cons_succ] at m0 m1 m2
  have n0 := blk_cell hn 0; have n1 := blk_cell hn 1; have n2 := blk_cell hn 2; simp only [List.getElem?_toArray, List.getElem?_cons_zero, List.getElem?_cons_succ] at n0 n1 n2
  have hlm := blk_lt hm
  have hln := blk_lt hn
  clear hb11 C10
  go_wp2_with fail
  refine (derSame_any nT zT _ (fun _ => True) _ _ w11 C11.out.mt (zT_rep _ _)).mono ?_
  rw [nz]
  rintro e w12 ⟨rfl, hb12⟩
  have C12 := Lib.hid (C11.out.step hb12)
  go_wp2
  go_ret
  exact ⟨rfl, C12.out.aw.bl⟩
end Go.Proofs.YtfgeldeaahdddaaDoor
