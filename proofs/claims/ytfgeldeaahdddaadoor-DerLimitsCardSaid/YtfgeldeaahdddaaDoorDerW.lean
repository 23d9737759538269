/- DerLimits: the walk. -/
import Derived.Test.YtfgeldeaahdddaaDoorDerK
import Derived.Test.YtfgeldeaahdddaaDoorDerS
import Derived.Test.YtfgeldeaahdddaaDoorDerT
set_option linter.unusedVariables false
set_option linter.unusedSimpArgs false
namespace Go.Proofs.YtfgeldeaahdddaaDoor
open Go.RowKit Lx

/-- A string that is too long. -/
theorem Parse_long (K : Nat) (hK : 1048576 < K) (hK2 : K ≤ 2000000) (A : Option Addr) (c : Nat) (w : World) (h : ∃ (S : Nat → Prop) (b : List UInt8), b.length = K ∧ Rep S w (.slice A K c) (byts b)) :
    Calls Tryd.prog 8 #[.slice A K c] w fun e w' => ∃ v, e = .returned v ∧ NodeE (fun k => w.heap.size ≤ k) w' v (.err 1 1048576) ∧ Below w.heap.size w w' := by
  obtain ⟨S, b, rfl, hr⟩ := h
  have := Parse_any S A c b w hr (by omega)
  rwa [show pparse b = .err 1 1048576 by unfold pparse; rw [if_pos hK]] at this
def kOf (n j : Nat) : Nat := if j = 0 then 127 else if j = 1 then 128 else if j = 2 then 255 else if j = 3 then 256 else if j = 4 then 65535 else if j = 5 then 65536 else if j = 6 then 1048571 else if j = 7 then 1048572 else n % 3000
theorem kOf_at (n j : Nat) (hj : j < 9) : (#[Value.int .i64 127, .int .i64 128, .int .i64 255, .int .i64 256, .int .i64 65535, .int .i64 65536, .int .i64 1048571, .int .i64 1048572, .int .i64 ((n : Int) % 3000)])[j]? = some (.int .i64 (kOf n j : Int)) := by
  match j, hj with
  | 0, _ => rfl
  | 1, _ => rfl
  | 2, _ => rfl
  | 3, _ => rfl
  | 4, _ => rfl
  | 5, _ => rfl
  | 6, _ => rfl
  | 7, _ => rfl
  | 8, _ => rfl
theorem kOf_le (n j : Nat) : kOf n j ≤ 1048571 ∨ kOf n j = 1048572 := by
  unfold kOf
  repeat' split
  all_goals omega
theorem make_run (k : Nat) (hk : k ≤ 2000000) (u : World) : (Instr.makeSlice 22 (.int .i64 (k : Int)) (.int .i64 (k : Int))).run Tryd.prog u = .ok (.slice (some ⟨u.heap.size, 0, none⟩) k k) (u.alloc (.cells (madeCells #[.int .u8 0] k) 5)) := by
  obtain ⟨i0, hi, hz0, hz1, hz2⟩ := info_parts info5
  have h := run_make (P := Tryd.prog) u 22 5 i0 (.int .u8 0) Tryd.underlying22 hi hz0 .i64 .i64 (k : Int) (k : Int) (by omega) (Int.le_refl _) (by rw [hz2]; omega) (by omega)
  have e : ((k : Int)).toNat = k := by omega
  rw [e] at h
  simpa [hz1, Value.cells] using h
/-- What goes on from call to call: the node x in memory, at g + 1; its bytes at g. -/
structure LW (w : World) (g : Nat) (xs : List UInt8) (W : World) : Prop where
  bl : Below w.heap.size w W
  le : w.heap.size ≤ g
  b0 : W.heap[g]? = some (.cells (madeCells #[.int .u8 0] xs.length) 5 (0, 0))
  b1 : W.heap[g + 1]? = some (.cells #[.int .u8 4, .slice (some ⟨g, 0, none⟩) xs.length xs.length, .slice none 0 0] 26 (0, 0))
theorem LW.step {w : World} {g : Nat} {xs : List UInt8} {W W' : World} (h : LW w g xs W) (hb : Below W.heap.size W W') : LW w g xs W' :=
  ⟨bl_then h.bl hb, h.le, (hb.block _ (blk_lt h.b0)).trans h.b0, (hb.block _ (blk_lt h.b1)).trans h.b1⟩
theorem LW.x {w : World} {g : Nat} {xs : List UInt8} {W : World} (h : LW w g xs W) (hx : xs = List.replicate xs.length 0) (hl : xs.length ≤ 2000000) : TreV (fun k => k = g) W (.agg #[.int .u8 4, .slice (some ⟨g, 0, none⟩) xs.length xs.length, .slice none 0 0]) (oT xs) :=
  ⟨some ⟨g, 0, none⟩, xs.length, none, 0, rfl, Nat.le_refl _, Nat.le_refl _, made_rep hx h.b0 (by omega), .nil _ _ _⟩
set_option maxRecDepth 100000 in
set_option maxHeartbeats 8000000 in
theorem limits_calls (n c : Nat) (w : World) (hg : Laid w) (hn : n ≤ 4294967295) (hc : c ≤ 255) : Calls Tryd.prog 5 #[.int .u32 (n : Int), .int .u8 (c : Int)] w fun e w' => e = .returned (.bool true) ∧ Below w.heap.size w w' := by
  have HG := Lib.hid hg
  clear hg
  have hc9 : c % 9 < 9 := Nat.mod_lt _ (by decide)
  have hat := kOf_at n (c % 9) hc9
  have hle := kOf_le n (c % 9)
  generalize kOf n (c % 9) = k at hat hle
  obtain ⟨xs, hxs, hxl⟩ : ∃ xs : List UInt8, xs = List.replicate k 0 ∧ xs.length = k := ⟨_, rfl, by simp⟩
  subst hxl
  have hx2 : xs.length ≤ 1048572 := by omega
  have HXS := Lib.hid hxs
  have hld : ∀ W : World, (W.alloc (.cells #[.int .i64 127, .int .i64 128, .int .i64 255, .int .i64 256, .int .i64 65535, .int .i64 65536, .int .i64 1048571, .int .i64 1048572, .int .i64 ((n : Int) % 3000)] 3)).cell? ⟨W.heap.size, c % 9, none⟩ = some (.int .i64 (xs.length : Int)) := fun W => (blk_cell (new_block W _) (c % 9)).trans hat
  have hmk := make_run xs.length (by omega)
  have hmk2 : ∀ u : World, (Instr.makeSlice 22 (.int .i64 1048577) (.int .i64 1048577)).run Tryd.prog u = .ok (.slice (some ⟨u.heap.size, 0, none⟩) 1048577 1048577) (u.alloc (.cells (madeCells #[.int .u8 0] 1048577) 5)) := make_run 1048577 (by omega)
  have HLE := Lib.hid hle
  clear hxs hat hle
  go_enter Tryd.func5, Tryd.ntmps5
  go_wp2_with fail
  refine (awake_any w HG.out).mono ?_
  rintro e w1 ⟨rfl, hb1⟩
  have HB1 := Lib.hid hb1
  clear hb1
  have hw1 := HB1.out.size
  go_wp2_with fail
  have C0 : LW w (w1.heap.size + 1) xs (((w1.alloc (.cells #[.int .i64 127, .int .i64 128, .int .i64 255, .int .i64 256, .int .i64 65535, .int .i64 65536, .int .i64 1048571, .int .i64 1048572, .int .i64 ((n : Int) % 3000)] 3)).alloc (.cells (madeCells #[.int .u8 0] xs.length) 5)).alloc (.cells #[.int .u8 4, .slice (some ⟨w1.heap.size + 1, 0, none⟩) xs.length xs.length, .slice none 0 0] 26)) :=
    ⟨bl_alloc (bl_alloc (bl_alloc HB1.out _) _) _, by omega, alloc_keep (new_block2 _ _ _) _, by simpa using new_block ((w1.alloc _).alloc _) _⟩
  have hX := C0.x HXS.out (by omega)
  rcases HLE.out with hle | hle
  · refine (Encode_yes (oT xs) _ _ _ (oT_valid xs hle) hX).mono ?_
    have hpar := oT_parse xs hle
    have hlen := oT_len xs
    have hsm := lenEnc_small xs.length (by omega)
    have hT := refText_calls 20 (oT xs)
    have hgt : ¬ 1048571 < (xs.length : Int) := by omega
    generalize htx : (oT xs).text = tx at hpar hlen hT
    have htl : tx.length ≤ 1048576 := by omega
    rintro e w2 ⟨v2, rfl, ho2, hb2⟩
    have hov := ho2.bytes_slice
    obtain ⟨B1, k1, rfl, _, _⟩ := hov
    have HR2 := Lib.hid ho2.bytes_rep
    have C := Lib.hid (C0.step hb2)
    have Hpar := Lib.hid hpar; have HT := Lib.hid hT; clear hpar hT
    clear ho2 hb2 hX C0 hlen htx
    have hn := C.out.b1
    have n0 := blk_cell hn 0; have n1 := blk_cell hn 1; have n2 := blk_cell hn 2; simp only [List.getElem?_toArray, List.getElem?_cons_zero, List.getElem?_cons_succ] at n0 n1 n2
    have hln := blk_lt hn
    clear hn
    go_wp2_with fail
    refine (Parse_any _ _ _ tx _ HR2.out (by omega)).mono ?_
    rw [Hpar.out]
    rintro e w3 ⟨v3, rfl, hn3, hb3⟩
    have hno := NodeE_ok hn3
    obtain ⟨u3, rfl, hu3⟩ := hno
    obtain ⟨B3, k3, B4, k4, hu, _⟩ := hu3
    have hu' : u3 = .agg #[.int .u8 4, .slice B3 xs.length k3, .slice B4 0 k4] := hu
    clear hu
    subst hu'
    replace C := Lib.hid (C.out.step hb3)
    clear n0 n1 n2 hln hb3 hn3
    have hn := C.out.b1
    have n0 := blk_cell hn 0; have n1 := blk_cell hn 1; have n2 := blk_cell hn 2; simp only [List.getElem?_toArray, List.getElem?_cons_zero, List.getElem?_cons_succ] at n0 n1 n2
    have hln := blk_lt hn
    clear hn
    go_wp2_with fail
    refine (HT.out (fun k => k = w1.heap.size + 1) _ _ (by rw [oT_depth]; decide) (by omega) ((C.out.x HXS.out (by omega)).old (bl_alloc (bl_refl _) _))).mono ?_
    rintro e w4 ⟨v4, rfl, ho4, hb4⟩
    have hov := ho4.bytes_slice
    obtain ⟨B5, k5, rfl, _, _⟩ := hov
    have hm := (hb4.block w3.heap.size (by simp)).trans (new_block w3 _)
    have m0 := blk_cell hm 0; have m1 := blk_cell hm 1; have m2 := blk_cell hm 2; simp only [List.getElem?_toArray, List.getElem?_cons_zero, List.getElem?_cons_succ] at m0 m1 m2
    have hlm := blk_lt hm
    have hb34 := bl_then (bl_alloc (bl_refl w3) (.cells #[.int .u8 4, .slice B3 xs.length k3, .slice B4 0 k4] 26)) hb4
    replace C := Lib.hid (C.out.step hb34)
    clear hm n0 n1 n2 hln ho4 hb4 hb34
    go_wp2
    go_ret
    exact ⟨rfl, C.out.bl⟩
  · refine (Encode_no (oT xs) _ _ _ (by rw [oT_depth]; decide) (by rw [oT_len]; have := lenEnc_small xs.length (by omega); omega) (oT_novalid xs hle) hX).mono ?_
    have hnv := oT_novalid xs hle
    have hgt : 1048571 < (xs.length : Int) := by omega
    rintro e w2 ⟨rfl, hb2⟩
    have C := Lib.hid (C0.step hb2)
    have Hnv := Lib.hid hnv; clear hnv
    clear hb2 hX C0
    have hn := C.out.b1
    have n0 := blk_cell hn 0; have n1 := blk_cell hn 1; have n2 := blk_cell hn 2; simp only [List.getElem?_toArray, List.getElem?_cons_zero, List.getElem?_cons_succ] at n0 n1 n2
    have hln := blk_lt hn
    clear hn
    have HL := Lib.hid hle
    clear hle
    go_wp2_with fail
    have hnb := new_block w2 (.cells (madeCells #[.int .u8 0] 1048577) 5)
    refine (Parse_long 1048577 (by omega) (by omega) _ _ _ ?hlong).mono ?_
    case hlong =>
      obtain ⟨ys, hys, hyl⟩ : ∃ ys : List UInt8, ys = List.replicate 1048577 0 ∧ ys.length = 1048577 := ⟨_, rfl, List.length_replicate ..⟩
      have := made_rep (W := w2.alloc (.cells (madeCells #[.int .u8 0] 1048577) 5)) hys hnb (by omega)
      rw [hyl] at this
      exact ⟨_, ys, hyl, this⟩
    rintro e w3 ⟨v3, rfl, hn3, hb3⟩
    have hno := NodeE_no (by decide) hn3
    obtain ⟨u3, rfl, B3, k3, B4, k4, rfl, _⟩ := hno
    replace C := Lib.hid ((C.out.step (bl_alloc (bl_refl _) _)).step hb3)
    clear n0 n1 n2 hln hb3 hn3 hnb
    have hn := C.out.b1
    have n0 := blk_cell hn 0; have n1 := blk_cell hn 1; have n2 := blk_cell hn 2; simp only [List.getElem?_toArray, List.getElem?_cons_zero, List.getElem?_cons_succ] at n0 n1 n2
    have hln := blk_lt hn
    clear hn
    go_wp2_with fail
    refine (code_code 12 _ (HG.out.move (bl_alloc C.out.bl _))).mono ?_
    rintro e w4 ⟨rfl, hb4⟩
    replace C := Lib.hid ((C.out.step (bl_alloc (bl_refl _) _)).step hb4)
    clear n0 n1 n2 hln hb4
    have hn := C.out.b1
    have n0 := blk_cell hn 0; have n1 := blk_cell hn 1; have n2 := blk_cell hn 2; simp only [List.getElem?_toArray, List.getElem?_cons_zero, List.getElem?_cons_succ] at n0 n1 n2
    have hln := blk_lt hn
    clear hn
    go_wp2_with fail
    refine (Valid_any (oT xs) _ _ w4 (by rw [oT_depth]; decide) (by rw [oT_len]; have := HL.out; have := lenEnc_small xs.length (by omega); omega) (C.out.x HXS.out (by omega))).mono ?_
    rw [Hnv.out]
    rintro e w5 ⟨rfl, hb5⟩
    replace C := Lib.hid (C.out.step hb5)
    clear n0 n1 n2 hln hb5
    go_wp2_with fail
    refine (told_yes 1 1048576 w5 (HG.out.move C.out.bl) (by decide) (by decide)).mono ?_
    rintro e w6 ⟨rfl, hb6⟩
    go_wp2
    go_ret
    exact ⟨rfl, bl_then C.out.bl hb6⟩
end Go.Proofs.YtfgeldeaahdddaaDoor
