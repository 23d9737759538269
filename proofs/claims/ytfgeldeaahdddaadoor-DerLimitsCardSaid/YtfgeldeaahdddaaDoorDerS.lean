/- pyxref08.Text. -/
import Derived.Test.YtfgeldeaahdddaaDoorDerR
import Derived.Test.YtfgeldeaahdddaaDoorDerN
import Derived.Test.YtfgeldeaahdddaaDoorDerB
set_option linter.unusedVariables false
set_option linter.unusedSimpArgs false
namespace Go.Proofs.YtfgeldeaahdddaaDoor
open Go.RowKit Lx

theorem rep_far {w w' : World} {v : Value} {c : Cl} {n g : Nat} (h : Rep (fun k => n ≤ k) w v c) (hg : w.grownBy w' (some g)) (hlt : g < n) : Rep (fun k => n ≤ k) w' v c :=
  h.grown hg fun k hk e => by injection e with e; omega
set_option maxRecDepth 100000 in
set_option maxHeartbeats 4000000 in
theorem refText_calls (m : Nat) : ∀ (n : Tre) (S : Nat → Prop) (v : Value) (w : World), n.depth ≤ m → n.text.length ≤ 10000000 → TreV S w v n →
    Calls Tryd.prog 20 #[v] w fun e w' => ∃ v, e = .returned v ∧ Own (fun _ => False) w' w.heap.size 5 v 1 (n.text.map byteCell) ∧ Below w.heap.size w w' := by
  induction m with
  | zero => intro n S v w h; have := Tre.depth_eq n; omega
  | succ m ih =>
    intro n S v w hd hlen hv
    have hv' := hv.mono (S' := fun k => S k ∧ k < w.heap.size) (fun k h1 h2 => ⟨h1, h2⟩)
    obtain ⟨A1, c1, A, c, rfl, hc1, hc, hBs, hK⟩ := hv'
    obtain ⟨A', c', he, _, hlm, hat⟩ := kids_parts hK
    cases he
    have HAT := Lib.hid hat
    have HT := Lib.hid (Tre.text_eq n)
    have htl : n.text.length = 1 + (lenEnc (n.bs ++ Tre.textL n.kids).length).length + (n.bs ++ Tre.textL n.kids).length := by rw [HT.out]; simp; omega
    have hbl : n.bs.length + (Tre.textL n.kids).length = (n.bs ++ Tre.textL n.kids).length := by rw [List.length_append]
    have hb1 : n.bs.length ≤ 10000000 := by omega
    have HD := Lib.hid hd
    have HBs := Lib.hid hBs; clear hBs
    clear hK hat hd hv
    go_enter Tryd.func20, Tryd.ntmps20
    go_wp2_with (at_builtin; go_must (refine wp_append_bytes (B := w.heap.size + 1) rfl _ _ rfl Tryd.underlying22 info5 _ [] n.bs _ rfl rfl (own_lit_bytes' [] (by simp) (by simp) rfl (by simp) (by simp)) (HBs.out.old (bl_alloc (bl_alloc (bl_refl _) _) _)) (by simp) (by simp; omega) ?_; intro v1 w3 ho1 hbl1 hg1 hat1; have hov := ho1.bytes_slice; obtain ⟨A9, c9, rfl, hc9, _⟩ := hov; have hb3 := (hbl1 _ ((Below.refl _ (w.alloc (.cells #[.int .u8 (n.tag.toNat : Int), .slice A1 n.bs.length c1, .slice A n.kids.length c] 33))).alloc (by simp) _)); have hx3 := (hb3.block w.heap.size (by simp)).trans (new_block w _); have hbw := (bl_alloc (bl_refl w) (.cells #[.int .u8 (n.tag.toNat : Int), .slice A1 n.bs.length c1, .slice A n.kids.length c] 33)).trans (hb3.mono (Nat.le_succ _)); have x0 := blk_cell hx3 0; have x1 := blk_cell hx3 1; have x2 := blk_cell hx3 2; simp only [List.getElem?_toArray, List.getElem?_cons_zero, List.getElem?_cons_succ] at x0 x1 x2; have hlx := blk_lt hx3; have Hx3 := Lib.hid hx3; have Hbw := Lib.hid hbw; have Ho1 := Lib.hid ho1; clear hx3 hbw ho1; clear hg1 hat1 hbl1 hb3))
    clear x0 x1
    go_loopw [3, 4] (fun ct i wr => ∃ (k : Nat) (Ac : Option Addr) (nc cc : Nat), k ≤ n.kids.length ∧ i = .int .i64 (k : Int) ∧ ct = .slice Ac nc cc ∧ Own (fun _ => False) wr (w.heap.size + 1) 5 (.slice Ac nc cc) 1 ((n.bs ++ Tre.textL (n.kids.take k)).map byteCell)
        ∧ Below w.heap.size w wr ∧ wr.heap[w.heap.size]? = some (.cells #[.int .u8 (n.tag.toNat : Int), .slice A1 n.bs.length c1, .slice A n.kids.length c] 33 (0, 0))) (fun _ i _ => n.kids.length - (intOf i).toNat)
    case atStart => exact ⟨0, A9, _, c9, Nat.zero_le _, rfl, rfl, by simpa [Tre.textL] using Ho1.out, Hbw.out, Hx3.out⟩
    case round =>
      obtain ⟨k, Ac, nc, cc, hk, rfl, rfl, hoc, hb, hx⟩ := hrel
      have q0 := blk_cell hx 0; have q1 := blk_cell hx 1; have q2 := blk_cell hx 2; simp only [List.getElem?_toArray, List.getElem?_cons_zero, List.getElem?_cons_succ] at q0 q1 q2
      have hgx := blk_lt hx
      by_cases hlt : k < n.kids.length
      · obtain ⟨ad, A1', c1', A2', c2', rfl, e0, e1, e2, l1, l2, r1, r2⟩ := HAT.out k hlt
        have d0 := cell_move (hb.block _ (World.block_lt_of_cell? w _ e0)) e0
        have d1 := cell_move (hb.block _ (World.block_lt_of_cell? w _ e1)) e1
        have d2 := cell_move (hb.block _ (World.block_lt_of_cell? w _ e2)) e2
        obtain ⟨s1, s2⟩ := Tre.textL_step n.kids k hlt
        have s3 : (Tre.textL (n.kids.take (k + 1))).length = (Tre.textL (n.kids.take k)).length + (n.kids[k]).text.length := by rw [s1, List.length_append]
        have hkd : (n.kids[k]).depth ≤ m := by have := Tre.depth_kid n k hlt; have := HD.out; omega
        have hws := hb.size
        have V1 := Lib.hid (show TreV (fun k => S k ∧ k < w.heap.size) w _ (n.kids[k]) from ⟨A1', c1', A2', c2', rfl, l1, l2, r1, r2⟩)
        have Hoc := Lib.hid hoc; have Hb := Lib.hid hb; have Hx := Lib.hid hx; have S1 := Lib.hid s1; clear hoc hb hx s1
        clear e0 e1 e2 r1 r2
        go_wp2_with (first
          | (at_builtin; go_must (refine wp_append_bytes (B := w.heap.size + 1) rfl _ _ rfl Tryd.underlying22 info5 _ (n.bs ++ Tre.textL (n.kids.take k)) (n.kids[k]).text _ rfl rfl (Hoc.out.below Hb4.out) Ho4.out.bytes_rep ?hB ?hlen ?_; (case hB => have := Hb4.out.size; omega); (case hlen => rw [List.length_append]; omega); intro v5 w5 ho5 hbl5 hg5 hat5; have hov := ho5.bytes_slice; obtain ⟨A5, c5, rfl, hc5, _⟩ := hov; have Ho5 := Lib.hid ho5; have Hg5 := Lib.hid hg5; clear ho5 hg5; clear hbl5 hat5))
          | (go_at_call 20; go_must (refine (ih (n.kids[k]) _ _ _ hkd (by omega) (V1.out.old Hb.out)).mono ?_; rintro e9 w4 ⟨v, rfl, ho4, hb4⟩; have hov := ho4.bytes_slice; obtain ⟨A4, c4, rfl, hc4, _⟩ := hov; have Ho4 := Lib.hid ho4; have Hb4 := Lib.hid hb4; clear ho4 hb4)))
        have hrow : ∀ k, (Value.slice Ac nc cc).ownBlock = some k → w.heap.size + 1 ≤ k ∧ k < wr.heap.size := Hoc.out.lt
        go_roundw
        case rel =>
          refine ⟨k + 1, A5, _, c5, by omega, by go_num, rfl, ?_, bl_grown (bl_then Hb.out Hb4.out) Hg5.out (fun k e => by have := (hrow _ e).1; omega), ?_⟩
          · have := Ho5.out
            rw [List.length_append, List.length_append, Nat.add_assoc] at this
            rw [S1.out, ← List.append_assoc]
            exact this
          · exact (Hg5.out.block _ (Nat.lt_of_lt_of_le hgx Hb4.out.size) (fun e => by have := (hrow _ e.symm).1; omega)).trans ((Hb4.out.block _ hgx).trans Hx.out)
        case measure => simp [intOf]; omega
      · have hke : k = n.kids.length := by omega
        rw [hke, List.take_length] at hoc
        generalize n.bs ++ Tre.textL n.kids = cts at *
        obtain ⟨_, _, he, _⟩ := hoc.bytes_slice
        cases he
        have hws := hb.size
        have h0 : OutR wr wr.heap.size (.slice none 0 0) [] (wr.alloc (.cells #[.int .u8 (n.tag.toNat : Int)] 5)) (.slice Ac cts.length cc) cts (.slice (some ⟨wr.heap.size, 0, none⟩) 1 1) [n.tag] :=
          ⟨own_lit_bytes' [n.tag] rfl (Nat.le_refl _) rfl (by simp) rfl, gr_alloc (gr_refl _ _) _, .inr ⟨wr.heap.size, rfl, Nat.le_refl _⟩, hoc.bytes_rep.move' fun k (hk : w.heap.size + 1 ≤ k) hl => ⟨fun e => by injection e with e; have e2 : k = wr.heap.size := e; omega, alloc_old _ _ _ hl⟩⟩
        have Hoc := Lib.hid hoc; have H0 := Lib.hid h0; have Hx := Lib.hid hx; have Hb := Lib.hid hb; clear hoc h0 hx hb
        clear hke x2 hlx
        by_cases h128 : cts.length < 128
        · have hl128 : ((cts.length : Nat) : Int) < 128 := by omega
          go_upto_region 11 with (at_builtin; go_must (refine wp_append_bytes (B := wr.heap.size) rfl _ _ rfl Tryd.underlying22 info5 _ ([] ++ [n.tag]) [UInt8.ofNat cts.length] _ rfl rfl (H0.out.own.below (bl_alloc (bl_refl _) _)) (own_lit_bytes' [UInt8.ofNat cts.length] (by simp) (Nat.le_refl _) rfl (by simp) (by simp; omega)).bytes_rep ?hB ?hlen ?_; (case hB => simp; omega); (case hlen => simp); intro v2 w6 ho1 hbl1 hg1 hat1; have h2 := H0.out.step (bl_alloc (bl_refl _) _) ho1 hg1 hat1; have H2 := Lib.hid h2; clear h2; clear ho1 hbl1 hg1 hat1))
          go_wp2_with (at_builtin; go_must (refine wp_append_bytes (B := wr.heap.size) rfl _ _ rfl Tryd.underlying22 info5 _ ([] ++ ([n.tag] ++ [UInt8.ofNat cts.length])) cts _ rfl rfl H2.out.own H2.out.rep ?hB ?hlen ?_; (case hB => have := H2.out.gr.size; omega); (case hlen => simp; omega); intro v3 w7 ho1 hbl1 hg1 hat1; have h3 := H2.out.step (bl_refl _) ho1 hg1 hat1; have H3 := Lib.hid h3; clear h3; clear ho1 hbl1 hg1 hat1))
          go_ret
          refine ⟨_, rfl, ?_, bl_grown Hb.out H3.out.gr (fun k e => by cases e)⟩
          have := H3.out.own.lower hws
          rw [HT.out, lenEnc, if_pos h128]
          exact this
        · have hsb : cts.length ≤ 10000000 := by omega
          have hnl := num_len3 cts.length (by omega)
          have hnum := Number_any cts.length
          generalize hnn : num cts.length = nn at hnl hnum
          have h128k : 0 ≤ 128 + (nn.length : Int) ∧ 128 + (nn.length : Int) ≤ 131 := by omega
          have Hnn := Lib.hid hnn; have Hnum := Lib.hid hnum; clear hnn hnum
          go_upto_region 10 with (go_at_call 35; go_must (refine (Hnum.out _ (by omega)).mono ?_; rintro e w9 ⟨v9, rfl, hr9, hb9⟩; have hq := byts_parts hr9; obtain ⟨A9', c9', rfl, hc9', _, _⟩ := hq; have Hr9 := Lib.hid hr9; have Hb9 := Lib.hid hb9; clear hr9 hb9))
          have h1 : OutR wr wr.heap.size (.slice none 0 0) [] w9 (.slice Ac cts.length cc) cts (.slice (some ⟨wr.heap.size, 0, none⟩) 1 1) [n.tag] :=
            ⟨H0.out.own.below Hb9.out, gr_below H0.out.gr Hb9.out, H0.out.at_, H0.out.rep.old Hb9.out⟩
          have H1 := Lib.hid h1; clear h1
          go_upto_region 11 with (first
            | (at_builtin; refine wp_append_bytes (B := wr.heap.size) rfl _ _ rfl Tryd.underlying22 info5 _ ([] ++ ([n.tag] ++ [UInt8.ofNat (128 + nn.length)])) nn _ rfl rfl H2.out.own Hr10.out ?hB ?hlen ?_; (case hB => have := H2.out.gr.size; omega); (case hlen => simp; omega); intro v3 w7 ho1 hbl1 hg1 hat1; have h3 := H2.out.step (bl_refl _) ho1 hg1 hat1; have H3 := Lib.hid h3; clear h3; clear ho1 hbl1 hg1 hat1)
            | (at_builtin; go_must (refine wp_append_bytes (B := wr.heap.size) rfl _ _ rfl Tryd.underlying22 info5 _ ([] ++ [n.tag]) [UInt8.ofNat (128 + nn.length)] _ rfl rfl (H1.out.own.below (bl_alloc (bl_refl _) _)) (own_lit_bytes' [UInt8.ofNat (128 + nn.length)] rfl (Nat.le_refl _) rfl (by simp) (by simp; omega)).bytes_rep ?hB ?hlen ?_; (case hB => have := H1.out.gr.size; simp; omega); (case hlen => simp); intro v2 w6 ho1 hbl1 hg1 hat1; have h2 := H1.out.step (bl_alloc (bl_refl _) _) ho1 hg1 hat1; have hr10 := rep_far (n := wr.heap.size + 1) (g := wr.heap.size) ((Hr9.out.old (bl_alloc (bl_refl w9) _)).mono (fun k hk _ => by simpa using hk)) hg1 (Nat.lt_succ_self _); have H2 := Lib.hid h2; have Hr10 := Lib.hid hr10; clear h2 hr10; clear ho1 hbl1 hg1 hat1)))
          go_wp2_with (at_builtin; go_must (refine wp_append_bytes (B := wr.heap.size) rfl _ _ rfl Tryd.underlying22 info5 _ ([] ++ ([n.tag] ++ [UInt8.ofNat (128 + nn.length)] ++ nn)) cts _ rfl rfl H3.out.own H3.out.rep ?hB ?hlen ?_; (case hB => have := H3.out.gr.size; omega); (case hlen => simp; omega); intro v4 w8 ho1 hbl1 hg1 hat1; have h4 := H3.out.step (bl_refl _) ho1 hg1 hat1; have H4 := Lib.hid h4; clear h4; clear ho1 hbl1 hg1 hat1))
          go_ret
          refine ⟨_, rfl, ?_, bl_grown Hb.out H4.out.gr (fun k e => by cases e)⟩
          have := H4.out.own.lower hws
          rw [HT.out, lenEnc, if_neg h128, Hnn.out]
          simpa using this
end Go.Proofs.YtfgeldeaahdddaaDoor
