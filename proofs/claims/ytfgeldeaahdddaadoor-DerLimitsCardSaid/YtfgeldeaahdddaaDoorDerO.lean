/- der.Valid, der.Encode, der.Parse. -/
import Derived.Test.YtfgeldeaahdddaaDoorDerN
import Derived.Test.YtfgeldeaahdddaaDoorDerM
set_option linter.unusedVariables false
set_option linter.unusedSimpArgs false
namespace Go.Proofs.YtfgeldeaahdddaaDoor
open Go.RowKit Lx

def validB (n : Tre) : Bool := decide (n.depth ≤ 8) && (n.shaped && decide (n.text.length ≤ 1048576))
theorem Valid_any (n : Tre) (S : Nat → Prop) (v : Value) (w : World) (hd : n.depth ≤ 1000000000000) (ht : n.text.length ≤ 1000000000000) (hv : TreV S w v n) :
    Calls Tryd.prog 19 #[v] w fun e w' => e = .returned (.bool (validB n)) ∧ Below w.heap.size w w' := by
  have V := Lib.hid hv
  obtain ⟨A1, c1, A, c, rfl, hc1, hc, hB, hK⟩ := hv
  clear hB hK
  by_cases h8 : n.depth ≤ 8
  · have HD := Lib.hid (show validB n = (n.shaped && decide (n.text.length ≤ 1048576)) by unfold validB; rw [decide_eq_true h8]; rfl)
    cases hs : n.shaped
    · have HD2 := Lib.hid (show validB n = false by rw [HD.out, hs]; rfl)
      go_enter Tryd.func19, Tryd.ntmps19
      go_wp2_with (first
        | (go_at_call 21; go_must (refine (depth_calls 1000000000000 n S _ _ hd (Nat.le_refl _) (V.out.old (bl_alloc (bl_refl _) _))).mono ?_; rintro e w1 ⟨rfl, hb1⟩; have hx1 := (hb1.block w.heap.size (by simp)).trans (new_block w _); have x0 := blk_cell hx1 0; have x1 := blk_cell hx1 1; have x2 := blk_cell hx1 2; simp only [List.getElem?_toArray, List.getElem?_cons_zero, List.getElem?_cons_succ] at x0 x1 x2; have hl1 := blk_lt hx1; have hbb := bl_then (bl_alloc (bl_refl w) _) hb1; have Hx1 := Lib.hid hx1; have Hbb := Lib.hid hbb; clear hx1 hbb; clear hb1))
        | (go_at_call 33; go_must (refine (shaped_calls 8 n S _ _ h8 (V.out.old Hbb.out)).mono ?_; rw [hs]; rintro e w2 ⟨rfl, hb2⟩; have hbc := bl_then Hbb.out hb2; have Hbc := Lib.hid hbc; clear hbc; clear hb2)))
      go_ret
      exact ⟨ret_bool HD2.out.symm, Hbc.out⟩
    · have HD2 := Lib.hid (show validB n = decide (n.text.length ≤ 1048576) by rw [HD.out, hs]; rfl)
      go_enter Tryd.func19, Tryd.ntmps19
      go_wp2_with (first
        | (go_at_call 21; go_must (refine (depth_calls 1000000000000 n S _ _ hd (Nat.le_refl _) (V.out.old (bl_alloc (bl_refl _) _))).mono ?_; rintro e w1 ⟨rfl, hb1⟩; have hx1 := (hb1.block w.heap.size (by simp)).trans (new_block w _); have x0 := blk_cell hx1 0; have x1 := blk_cell hx1 1; have x2 := blk_cell hx1 2; simp only [List.getElem?_toArray, List.getElem?_cons_zero, List.getElem?_cons_succ] at x0 x1 x2; have hl1 := blk_lt hx1; have hbb := bl_then (bl_alloc (bl_refl w) _) hb1; have Hx1 := Lib.hid hx1; have Hbb := Lib.hid hbb; clear hx1 hbb; clear hb1))
        | (go_at_call 33; go_must (refine (shaped_calls 8 n S _ _ h8 (V.out.old Hbb.out)).mono ?_; rw [hs]; rintro e w2 ⟨rfl, hb2⟩; clear x0 x1 x2; have hx2 := (hb2.block w.heap.size hl1).trans Hx1.out; have x0 := blk_cell hx2 0; have x1 := blk_cell hx2 1; have x2 := blk_cell hx2 2; simp only [List.getElem?_toArray, List.getElem?_cons_zero, List.getElem?_cons_succ] at x0 x1 x2; have hl2 := blk_lt hx2; have hbc := bl_then Hbb.out hb2; have Hbc := Lib.hid hbc; have Hx2 := Lib.hid hx2; clear hbc hx2; clear hb2))
        | (go_at_call 34; go_must (refine (size_calls 8 n S _ _ h8 ht (V.out.old Hbc.out)).mono ?_; rintro e w3 ⟨rfl, hb3⟩; have hbd := bl_then Hbc.out hb3; have Hbd := Lib.hid hbd; clear hbd; clear hb3)))
      go_ret
      exact ⟨ret_bool (by rw [HD2.out, Bool.eq_iff_iff]; simp; omega), Hbd.out⟩
  · have HD2 := Lib.hid (show validB n = false by unfold validB; rw [decide_eq_false h8]; rfl)
    go_enter Tryd.func19, Tryd.ntmps19
    go_wp2_with (go_at_call 21; go_must (refine (depth_calls 1000000000000 n S _ _ hd (Nat.le_refl _) (V.out.old (bl_alloc (bl_refl _) _))).mono ?_; rintro e w1 ⟨rfl, hb1⟩; have hx1 := (hb1.block w.heap.size (by simp)).trans (new_block w _); have x0 := blk_cell hx1 0; have x1 := blk_cell hx1 1; have x2 := blk_cell hx1 2; simp only [List.getElem?_toArray, List.getElem?_cons_zero, List.getElem?_cons_succ] at x0 x1 x2; have hl1 := blk_lt hx1; have hbb := bl_then (bl_alloc (bl_refl w) _) hb1; have Hx1 := Lib.hid hx1; have Hbb := Lib.hid hbb; clear hx1 hbb; clear hb1))
    go_ret
    exact ⟨ret_bool HD2.out.symm, Hbb.out⟩
theorem Encode_no (n : Tre) (S : Nat → Prop) (v : Value) (w : World) (hd : n.depth ≤ 1000000000000) (ht : n.text.length ≤ 1000000000000) (hn : validB n = false) (hv : TreV S w v n) :
    Calls Tryd.prog 12 #[v] w fun e w' => e = .returned (.tuple #[.slice none 0 0, .iface 56 (.int .i64 12)]) ∧ Below w.heap.size w w' := by
  have V := Lib.hid hv
  obtain ⟨A1, c1, A, c, rfl, hc1, hc, hB, hK⟩ := hv
  clear hB hK
  go_enter Tryd.func12, Tryd.ntmps12
  go_wp2_with (go_at_call 19; go_must (refine (Valid_any n S _ _ hd ht (V.out.old (bl_alloc (bl_refl _) _))).mono ?_; rw [hn]; rintro e w1 ⟨rfl, hb1⟩; have hbb := bl_then (bl_alloc (bl_refl w) _) hb1; have Hbb := Lib.hid hbb; clear hbb; clear hb1))
  go_ret2
  exact ⟨rfl, Hbb.out⟩
theorem valid_parts {n : Tre} (h : validB n = true) : n.depth ≤ 8 ∧ n.shaped = true ∧ n.text.length ≤ 1048576 := by
  unfold validB at h
  simpa [and_assoc] using h
theorem Encode_yes (n : Tre) (S : Nat → Prop) (v : Value) (w : World) (hn : validB n = true) (hv : TreV S w v n) :
    Calls Tryd.prog 12 #[v] w fun e w' => ∃ v, e = .returned (.tuple #[v, .nilIface]) ∧ Own (fun _ => False) w' w.heap.size 5 v 1 (n.text.map byteCell) ∧ Below w.heap.size w w' := by
  have V := Lib.hid (hv.mono (S' := fun k => S k ∧ k < w.heap.size) fun _ h1 h2 => ⟨h1, h2⟩)
  obtain ⟨A1, c1, A, c, rfl, hc1, hc, hB, hK⟩ := hv
  obtain ⟨p1, _, p3⟩ := valid_parts hn
  clear hB hK
  go_enter Tryd.func12, Tryd.ntmps12
  go_wp2_with (first
    | (go_at_call 19; go_must (refine (Valid_any n _ _ _ (by omega) (by omega) (V.out.old (bl_alloc (bl_refl _) _))).mono ?_; rw [hn]; rintro e w1 ⟨rfl, hb1⟩; have hx1 := (hb1.block w.heap.size (by simp)).trans (new_block w _); have x0 := blk_cell hx1 0; have x1 := blk_cell hx1 1; have x2 := blk_cell hx1 2; simp only [List.getElem?_toArray, List.getElem?_cons_zero, List.getElem?_cons_succ] at x0 x1 x2; have hl1 := blk_lt hx1; have hbb := bl_then (bl_alloc (bl_refl w) _) hb1; have Hx1 := Lib.hid hx1; have Hbb := Lib.hid hbb; clear hx1 hbb; clear hb1))
    | (go_at_call 27; go_must (refine (app_calls 8 n _ _ w.heap.size _ [] _ p1 (by simp; omega) (V.out.old Hbb.out) Hbb.out.size (Own.nil _ _ _ _ _) (fun k _ e => by cases e)).mono ?_; rintro e w2 ⟨v2, rfl, ho2, hg2, _⟩; have hbc := bl_grown Hbb.out hg2 (fun k e => by cases e); have Ho2 := Lib.hid ho2; have Hbc := Lib.hid hbc; clear ho2 hbc; clear hg2)))
  go_ret2
  exact ⟨_, rfl, Ho2.out, Hbc.out⟩

theorem parse_results {tmps : Array Value} {w : World} {g : Nat} {cs : Array Value} (hp : tmps.getD 2 undef = .pointer (some ⟨g, 0, none⟩)) (hg : w.heap[g]? = some (.cells cs 26 (0, 0))) (hs : cs.size = 3) : (results Tryd.f8 tmps).run Tryd.prog w = .ok (.tuple #[.agg cs, tmps.getD 3 undef]) w :=
  res_cell_tmp (fn := Tryd.f8) rfl hp hg Tryd.underlying26 rfl (by rw [hs]; kernel_rfl)
theorem new_block2 (w : World) (o o' : Obj) : ((w.alloc o).alloc o').heap[w.heap.size + 1]? = some o' := by simpa using new_block (w.alloc o) o'
set_option maxRecDepth 100000 in
set_option maxHeartbeats 4000000 in
theorem Parse_any (S : Nat → Prop) (A : Option Addr) (c : Nat) (b : List UInt8) (w : World) (hr : Rep S w (.slice A b.length c) (byts b)) (hb : b.length ≤ 2000000) :
    Calls Tryd.prog 8 #[.slice A b.length c] w fun e w' => ∃ v, e = .returned v ∧ NodeE (fun k => w.heap.size ≤ k) w' v (pparse b) ∧ Below w.heap.size w w' := by
  have HR := Lib.hid (hr.mono (S' := fun k => S k ∧ k < w.heap.size) fun _ h1 h2 => ⟨h1, h2⟩)
  obtain ⟨_, _, he, hc, hm, _⟩ := byts_parts hr
  cases he
  clear hr
  by_cases c1 : 1048576 < b.length
  · have HV := Lib.hid (show pparse b = .err 1 1048576 by unfold pparse; rw [if_pos c1])
    go_enter Tryd.func8, Tryd.ntmps8
    go_wp2_with (go_at_call 23; go_must (refine (New_any _ _ _).mono ?_; rintro e w1 ⟨rfl, rfl⟩))
    refine bodyPost_ret (parse_results rfl (new_block _ _) rfl) rfl ⟨_, rfl, by rw [HV.out]; exact NodeE.err _ _ 1 1048576 (by decide), bl_alloc (bl_refl _) _⟩
  · have hpp : pparse b = if (pread 8 b 0 b.length).code = 0 ∧ (pread 8 b 0 b.length).next < b.length then .err 4 (pread 8 b 0 b.length).next else pread 8 b 0 b.length := by unfold pparse; rw [if_neg c1]
    have hperr := pread_err 8 b 0 b.length
    have hok := fun h => (pread_ok 8 b 0 b.length (Nat.le_refl _) h).2.2.2.2
    have hN := node_calls 8
    have hn := hN _ (w.heap.size + 1) A c b 0 b.length (b.length : Int) 0 ((w.alloc (.cells #[.int .u8 0, .slice none 0 0, .slice none 0 0] 26)).alloc (.cells #[.slice A b.length c, .int .i64 0] 59)) rfl (by simp) (HR.out.old (bl_alloc (bl_alloc (bl_refl _) _) _)) (fun k hk e => by have := hk.2; omega) (new_block2 _ _ _) (Nat.le_refl _) (Nat.zero_le _) hb (Nat.le_refl _)
    generalize hp : pread 8 b 0 b.length = pr at hpp hperr hok hn
    clear hp hN
    by_cases h1 : pr.code = 0
    · obtain ⟨h2, _⟩ := hok h1
      have herr : errV pr.code pr.at_ = .nilIface := by rw [h1]; rfl
      by_cases h3 : pr.next < b.length
      · have HV := Lib.hid (show pparse b = .err 4 pr.next by rw [hpp, if_pos ⟨h1, h3⟩])
        have Hn := Lib.hid hn; have Herr := Lib.hid herr; have H1 := Lib.hid h1; have Hpp := Lib.hid hpp; clear hn herr h1 hpp
        go_enter Tryd.func8, Tryd.ntmps8
        go_wp2_with fail
        refine Hn.out.mono ?_
        rintro ev w1 ⟨v, rfl, ⟨A1, k1, A2, k2, rfl, m1, m2, g1, g2⟩, hg1, j, hrd1, hj⟩
        rw [Herr.out]
        obtain rfl := hj H1.out
        have hy6 := (hg1.block w.heap.size (by simp; omega) (fun e => by injection e; omega)).trans (alloc_keep (new_block w (.cells #[.int .u8 0, .slice none 0 0, .slice none 0 0] 26)) (.cells #[.slice A b.length c, .int .i64 0] 59))
        have hgr1 := (gr_alloc (gr_alloc (gr_refl w (some (w.heap.size + 1))) (.cells #[.int .u8 0, .slice none 0 0, .slice none 0 0] 26)) (.cells #[.slice A b.length c, .int .i64 0] 59)).trans hg1
        have hbw := bl_of_gr hgr1 (fun k e => by injection e; omega)
        unfold Rdr at hrd1
        have q0 := blk_cell hrd1 0; have q1 := blk_cell hrd1 1; have qz0 := blk_frozen hrd1 0; have qz1 := blk_frozen hrd1 1; simp only [List.getElem?_toArray, List.getElem?_cons_zero, List.getElem?_cons_succ] at q0 q1
        have y0 := blk_cell hy6 0; have y1 := blk_cell hy6 1; have y2 := blk_cell hy6 2; have yz0 := blk_frozen hy6 0; have yz1 := blk_frozen hy6 1; have yz2 := blk_frozen hy6 2; simp only [List.getElem?_toArray, List.getElem?_cons_zero, List.getElem?_cons_succ] at y0 y1 y2
        have hl6 := blk_lt hy6
        have hlg := blk_lt hrd1
        have Hy6 := Lib.hid hy6; have Hrd1 := Lib.hid hrd1; have Hbw := Lib.hid hbw; have G1 := Lib.hid g1; have G2 := Lib.hid g2; clear hy6 hrd1 hbw g1 g2
        clear hg1 hgr1
        go_wp2_with (go_at_call 23; go_must (refine (New_any _ _ _).mono ?_; rintro e w9 ⟨rfl, rfl⟩))
        refine bodyPost_ret (parse_results rfl (alloc_keep (blk_set3 Hy6.out _ _ _) _) rfl) rfl ⟨_, rfl, by rw [HV.out]; exact NodeE.err _ _ 4 pr.next (by decide), ?_⟩
        exact bl_alloc (bl_set (bl_set (bl_set Hbw.out (Nat.le_refl _) _) (Nat.le_refl _) _) (Nat.le_refl _) _) _
      · have HV := Lib.hid (show pparse b = pr by rw [hpp, if_neg (fun h => h3 h.2)])
        have Hn := Lib.hid hn; have Herr := Lib.hid herr; have H1 := Lib.hid h1; have Hpp := Lib.hid hpp; clear hn herr h1 hpp
        go_enter Tryd.func8, Tryd.ntmps8
        go_wp2_with fail
        refine Hn.out.mono ?_
        rintro ev w1 ⟨v, rfl, ⟨A1, k1, A2, k2, rfl, m1, m2, g1, g2⟩, hg1, j, hrd1, hj⟩
        rw [Herr.out]
        obtain rfl := hj H1.out
        have hy6 := (hg1.block w.heap.size (by simp; omega) (fun e => by injection e; omega)).trans (alloc_keep (new_block w (.cells #[.int .u8 0, .slice none 0 0, .slice none 0 0] 26)) (.cells #[.slice A b.length c, .int .i64 0] 59))
        have hgr1 := (gr_alloc (gr_alloc (gr_refl w (some (w.heap.size + 1))) (.cells #[.int .u8 0, .slice none 0 0, .slice none 0 0] 26)) (.cells #[.slice A b.length c, .int .i64 0] 59)).trans hg1
        have hbw := bl_of_gr hgr1 (fun k e => by injection e; omega)
        unfold Rdr at hrd1
        have q0 := blk_cell hrd1 0; have q1 := blk_cell hrd1 1; have qz0 := blk_frozen hrd1 0; have qz1 := blk_frozen hrd1 1; simp only [List.getElem?_toArray, List.getElem?_cons_zero, List.getElem?_cons_succ] at q0 q1
        have y0 := blk_cell hy6 0; have y1 := blk_cell hy6 1; have y2 := blk_cell hy6 2; have yz0 := blk_frozen hy6 0; have yz1 := blk_frozen hy6 1; have yz2 := blk_frozen hy6 2; simp only [List.getElem?_toArray, List.getElem?_cons_zero, List.getElem?_cons_succ] at y0 y1 y2
        have hl6 := blk_lt hy6
        have hlg := blk_lt hrd1
        have Hy6 := Lib.hid hy6; have Hrd1 := Lib.hid hrd1; have Hbw := Lib.hid hbw; have G1 := Lib.hid g1; have G2 := Lib.hid g2; clear hy6 hrd1 hbw g1 g2
        clear hg1 hgr1
        go_wp2
        refine bodyPost_ret (parse_results rfl (alloc_keep (blk_set3 Hy6.out _ _ _) _) rfl) rfl ⟨_, rfl, ?_, ?_⟩
        · rw [HV.out]
          have mv : ∀ {u : Value} {q : Cl} {W : World}, (∀ k, w.heap.size + 2 ≤ k → k < w1.heap.size → W.heap[k]? = w1.heap[k]?) → Rep (fun k => ((w.alloc (.cells #[.int .u8 0, .slice none 0 0, .slice none 0 0] 26)).alloc (.cells #[.slice A b.length c, .int .i64 0] 59)).heap.size ≤ k) w1 u q → Rep (fun k => w.heap.size ≤ k) W u q := fun h1 h2 => h2.move' fun k hk hl => by
            have hk' : w.heap.size + 2 ≤ k := by simpa using hk
            exact ⟨by show w.heap.size ≤ k; omega, h1 k hk' hl⟩
          refine ⟨A1, k1, A2, k2, by rw [errV, if_pos H1.out]; rfl, m1, m2, mv (fun k hk hl => ?_) G1.out, mv (fun k hk hl => ?_) G2.out⟩ <;> (refine (alloc_old _ _ _ (by simp; exact hl)).trans ?_; (repeat (refine (Below.heap_setCell _ _ _ _ (by simp; omega)).trans ?_)); with_reducible rfl)
        · exact bl_alloc (bl_set (bl_set (bl_set Hbw.out (Nat.le_refl _) _) (Nat.le_refl _) _) (Nat.le_refl _) _) _
    · have herr := errV_pos pr.code pr.at_ h1
      have hpe := hperr h1
      have HV := Lib.hid (show pparse b = .err pr.code pr.at_ by rw [hpp, if_neg (fun h => h1 h.1)]; exact hpe)
      have Hn := Lib.hid hn; have Herr := Lib.hid herr; have H1 := Lib.hid h1; have Hpp := Lib.hid hpp; have Hpe := Lib.hid hpe; clear hn herr h1 hpp hpe
      go_enter Tryd.func8, Tryd.ntmps8
      go_wp2_with fail
      refine Hn.out.mono ?_
      rintro ev w1 ⟨v, rfl, ⟨A1, k1, A2, k2, rfl, m1, m2, g1, g2⟩, hg1, j, hrd1, hj⟩
      rw [Herr.out]
      have hy6 := (hg1.block w.heap.size (by simp; omega) (fun e => by injection e; omega)).trans (alloc_keep (new_block w (.cells #[.int .u8 0, .slice none 0 0, .slice none 0 0] 26)) (.cells #[.slice A b.length c, .int .i64 0] 59))
      have hgr1 := (gr_alloc (gr_alloc (gr_refl w (some (w.heap.size + 1))) (.cells #[.int .u8 0, .slice none 0 0, .slice none 0 0] 26)) (.cells #[.slice A b.length c, .int .i64 0] 59)).trans hg1
      have hbw := bl_of_gr hgr1 (fun k e => by injection e; omega)
      unfold Rdr at hrd1
      have q0 := blk_cell hrd1 0; have q1 := blk_cell hrd1 1; have qz0 := blk_frozen hrd1 0; have qz1 := blk_frozen hrd1 1; simp only [List.getElem?_toArray, List.getElem?_cons_zero, List.getElem?_cons_succ] at q0 q1
      have y0 := blk_cell hy6 0; have y1 := blk_cell hy6 1; have y2 := blk_cell hy6 2; have yz0 := blk_frozen hy6 0; have yz1 := blk_frozen hy6 1; have yz2 := blk_frozen hy6 2; simp only [List.getElem?_toArray, List.getElem?_cons_zero, List.getElem?_cons_succ] at y0 y1 y2
      have hl6 := blk_lt hy6
      have hlg := blk_lt hrd1
      have Hy6 := Lib.hid hy6; have Hrd1 := Lib.hid hrd1; have Hbw := Lib.hid hbw; have G1 := Lib.hid g1; have G2 := Lib.hid g2; clear hy6 hrd1 hbw g1 g2
      clear hg1 hgr1
      go_wp2
      refine bodyPost_ret (parse_results rfl (alloc_keep (blk_set3 Hy6.out _ _ _) _) rfl) rfl ⟨_, rfl, by rw [HV.out]; exact NodeE.err _ _ _ _ H1.out, ?_⟩
      exact bl_alloc (bl_set (bl_set (bl_set Hbw.out (Nat.le_refl _) _) (Nat.le_refl _) _) (Nat.le_refl _) _) _
end Go.Proofs.YtfgeldeaahdddaaDoor
