/- The reader's nodes, one level more. -/
import Derived.Test.YtfgeldeaahdddaaDoorDerL
import Derived.Deep.RegionHeld3
import Derived.StillTailTactics
set_option linter.unusedVariables false
set_option linter.unusedSimpArgs false
namespace Go.Proofs.YtfgeldeaahdddaaDoor
open Go.RowKit Lx

theorem gr_below0 {w W W' : World} {row : Option Nat} (h : w.grownBy W row) (hb : Below w.heap.size W W') : w.grownBy W' row :=
  ⟨hb.os.trans h.os, hb.tape.trans h.tape, hb.output.trans h.output, Nat.le_trans h.size hb.size, fun k hk hne => (hb.block k hk).trans (h.block k hk hne)⟩
set_option maxRecDepth 100000 in
set_option maxHeartbeats 40000000 in
theorem node_succ (d : Nat) (ih : NodeSaid d) : NodeSaid (d + 1) := by
  intro S g A c b i e ei ab w hei hab hr hS hx he hi hb hd
  subst hei
  have h8 : ab < 8 := by omega
  have h80 : 0 ≤ ab := by omega
  have HAB := Lib.hid hab
  obtain ⟨_, _, h, hc, hm, hp⟩ := byts_parts hr
  cases h
  unfold Rdr at hx
  have q0 := blk_cell hx 0; have q1 := blk_cell hx 1; have qz0 := blk_frozen hx 0; have qz1 := blk_frozen hx 1; simp only [List.getElem?_toArray, List.getElem?_cons_zero, List.getElem?_cons_succ] at q0 q1
  have hgs := blk_lt hx
  have HX := Lib.hid hx
  have HP := Lib.hid hp
  have HR := Lib.hid hr
  clear hx hp hab hr
  by_cases c1 : e ≤ i
  · have HV := Lib.hid (show pread (d + 1) b i e = .err 3 e by unfold pread; rw [if_pos c1])
    go_enter Tryd.func24, Tryd.ntmps24
    go_wp2_with (go_at_call 23; go_must (refine (New_any _ _ _).mono ?_; rintro e w1 ⟨rfl, rfl⟩))
    refine bodyPost_ret (node_results rfl (new_block _ _) rfl) rfl ⟨_, rfl, by rw [HV.out]; exact NodeE.err _ _ 3 e (by decide), gr_alloc (gr_refl _ _) _, _, alloc_keep HX.out _, fun h => by rw [HV.out] at h; simp [PR.err] at h⟩
  · have hlt : i < b.length := by omega
    obtain ⟨ad, rfl, d0⟩ := HP.out i hlt
    have qd0 := World.block_lt_of_cell? w _ d0
    have hx256 := UInt8.toNat_lt b[i]
    have hgd : b.getD i 0 = b[i] := by simp [List.getD_eq_getElem?_getD, List.getElem?_eq_getElem hlt]
    have HG := Lib.hid hgd
    clear hgd
    cases ht : tagOk b[i]
    · have HV := Lib.hid (show pread (d + 1) b i e = .err 5 i by unfold pread; rw [if_neg c1, HG.out, if_pos ht])
      go_enter Tryd.func24, Tryd.ntmps24
      go_wp2
      go_region_held3 (fun w' => w'.cell? ⟨g, 0, none⟩ = some (.slice (some ad) b.length c) ∧ w'.cell? ⟨g, 1, none⟩ = some (.int .i64 (i : Int)) ∧ w'.cell? (ad.add i) = some (.int .u8 ((b[i].toNat : Nat) : Int))) (go_keep) ((fail))
      go_wp2_with (first | (go_at_call 36; go_must (refine (right_any b[i] _).mono ?_; rw [ht]; rintro e w1 ⟨rfl, rfl⟩)) | (go_at_call 23; go_must (refine (New_any _ _ _).mono ?_; rintro e w1 ⟨rfl, rfl⟩)))
      refine bodyPost_ret (node_results rfl (by first | exact new_block _ _ | exact alloc_keep (new_block _ _) _ | exact alloc_keep (w := w.alloc _) (new_block w _) _) rfl) rfl ⟨_, rfl, by rw [HV.out]; exact NodeE.err _ _ 5 i (by decide), gr_drew (gr_alloc (gr_alloc (gr_refl _ _) _) _), _, alloc_keep (alloc_keep HX.out _) _, fun h => by rw [HV.out] at h; simp [PR.err] at h⟩
    · have HV := Lib.hid (show pread (d + 1) b i e = if (plen b (i + 1) e).code ≠ 0 then .err (plen b (i + 1) e).code (plen b (i + 1) e).at_
    else if e < (plen b (i + 1) e).next + (plen b (i + 1) e).len then .err 3 e
    else if comp b[i] = false then ⟨⟨b[i], cut b (plen b (i + 1) e).next ((plen b (i + 1) e).next + (plen b (i + 1) e).len), []⟩, (plen b (i + 1) e).next + (plen b (i + 1) e).len, 0, 0⟩
    else ploop (fun x => pread d b x ((plen b (i + 1) e).next + (plen b (i + 1) e).len)) b[i] ((plen b (i + 1) e).next + (plen b (i + 1) e).len) ((plen b (i + 1) e).len + 1) (plen b (i + 1) e).next [] by
          rw [pread, if_neg c1, HG.out, if_neg (by rw [ht]; simp)])
      have hg6 : g ≠ w.heap.size := by omega
      have hs6 : (w.setCell ⟨g, 1, none⟩ (.int .i64 ((i : Int) + 1))).heap.size = w.heap.size := by simp
      have hx8 : Rdr (((w.setCell ⟨g, 1, none⟩ (.int .i64 ((i : Int) + 1))).alloc (.cells #[.int .u8 0, .slice none 0 0, .slice none 0 0] 26)).alloc (.cells #[.int .u8 ((b[i].toNat : Nat) : Int), .slice none 0 0, .slice none 0 0] 26)).drew g (some ad) c b ((i + 1 : Nat) : Int) := by
        unfold Rdr
        exact alloc_keep (alloc_keep (blk_set HX.out 1 _) _) _
      have hg8 : w.grownBy (((w.setCell ⟨g, 1, none⟩ (.int .i64 ((i : Int) + 1))).alloc (.cells #[.int .u8 0, .slice none 0 0, .slice none 0 0] 26)).alloc (.cells #[.int .u8 ((b[i].toNat : Nat) : Int), .slice none 0 0, .slice none 0 0] 26)).drew (some g) := gr_drew (gr_alloc (gr_alloc (gr_set (gr_refl _ _) _ _) _) _)
      have hb6 : (((w.setCell ⟨g, 1, none⟩ (.int .i64 ((i : Int) + 1))).alloc (.cells #[.int .u8 0, .slice none 0 0, .slice none 0 0] 26)).alloc (.cells #[.int .u8 ((b[i].toNat : Nat) : Int), .slice none 0 0, .slice none 0 0] 26)).drew.heap[w.heap.size]? = some (.cells #[.int .u8 0, .slice none 0 0, .slice none 0 0] 26 (0, 0)) := by
        have h := alloc_keep (new_block (w.setCell ⟨g, 1, none⟩ (.int .i64 ((i : Int) + 1))) (.cells #[.int .u8 0, .slice none 0 0, .slice none 0 0] 26)) (.cells #[.int .u8 ((b[i].toNat : Nat) : Int), .slice none 0 0, .slice none 0 0] 26)
        rw [hs6] at h
        exact h
      have hb8 : (((w.setCell ⟨g, 1, none⟩ (.int .i64 ((i : Int) + 1))).alloc (.cells #[.int .u8 0, .slice none 0 0, .slice none 0 0] 26)).alloc (.cells #[.int .u8 ((b[i].toNat : Nat) : Int), .slice none 0 0, .slice none 0 0] 26)).drew.heap[w.heap.size + 1]? = some (.cells #[.int .u8 ((b[i].toNat : Nat) : Int), .slice none 0 0, .slice none 0 0] 26 (0, 0)) := by
        have h := new_block ((w.setCell ⟨g, 1, none⟩ (.int .i64 ((i : Int) + 1))).alloc (.cells #[.int .u8 0, .slice none 0 0, .slice none 0 0] 26)) (.cells #[.int .u8 ((b[i].toNat : Nat) : Int), .slice none 0 0, .slice none 0 0] 26)
        have hs7 : ((w.setCell ⟨g, 1, none⟩ (.int .i64 ((i : Int) + 1))).alloc (.cells #[.int .u8 0, .slice none 0 0, .slice none 0 0] 26)).heap.size = w.heap.size + 1 := by simp
        rw [hs7] at h
        exact h
      have hl8 : w.heap.size + 2 = (((w.setCell ⟨g, 1, none⟩ (.int .i64 ((i : Int) + 1))).alloc (.cells #[.int .u8 0, .slice none 0 0, .slice none 0 0] 26)).alloc (.cells #[.int .u8 ((b[i].toNat : Nat) : Int), .slice none 0 0, .slice none 0 0] 26)).drew.heap.size := by simp
      have hlen := length_any S g (some ad) c b (i + 1) e _ (HR.out.grown hg8 (fun k hk e => hS k hk (by injection e))) hS hx8 he (by omega) (by omega)
      have hln : (plen b (i + 1) e).code = 0 → (plen b (i + 1) e).next ≤ e ∧ i + 1 < (plen b (i + 1) e).next := fun h => by
        have := plen_ok b (i + 1) e he h
        exact ⟨this.2.1, this.1⟩
      have hll := plen_len b (i + 1) e he
      generalize plen b (i + 1) e = L at HV hlen hln hll
      have Hlen := Lib.hid hlen; have Hg8 := Lib.hid hg8; have Hb6 := Lib.hid hb6; have Hb8 := Lib.hid hb8; have Hx8 := Lib.hid hx8; have Hs6 := Lib.hid hs6; have Hl8 := Lib.hid hl8; clear hlen hg8 hb6 hb8 hx8 hs6 hl8
      by_cases k1 : L.code = 0
      · have HV2 := Lib.hid (HV.out.trans (if_neg (by rw [k1]; simp)))
        have herr : errV L.code L.at_ = .nilIface := by rw [k1]; rfl
        obtain ⟨hn1, hn2⟩ := hln k1
        have K1 := Lib.hid k1
        have Herr := Lib.hid herr; clear herr
        clear k1 hln HV
        obtain ⟨l, nx, cd, a9⟩ := L
        dsimp only at hn1 hn2 hll HV2 K1 Hlen Herr
        by_cases c4 : e < nx + l
        · have HV3 := Lib.hid (HV2.out.trans (if_pos c4))
          go_enter Tryd.func24, Tryd.ntmps24
          go_wp2
          go_region_held3 (fun w' => w'.cell? ⟨g, 0, none⟩ = some (.slice (some ad) b.length c) ∧ w'.cell? ⟨g, 1, none⟩ = some (.int .i64 (i : Int)) ∧ w'.cell? (ad.add i) = some (.int .u8 ((b[i].toNat : Nat) : Int))) (go_keep) ((fail))
          go_wp2_with (first | (go_at_call 23; go_must (refine (New_any _ _ _).mono ?_; rintro e w1 ⟨rfl, rfl⟩)) |
            (go_at_call 36; go_must (refine (right_any b[i] _).mono ?_; rw [ht]; rintro e w1 ⟨rfl, rfl⟩)) | (go_at_call 37; go_must (refine Hlen.out.mono ?_; rintro e9 w2 ⟨rfl, hgr2, j, hrd2, hj2⟩; rw [Herr.out]; obtain rfl := hj2 K1.out; clear hj2; have hsz2 := hgr2.size; rw [← Hl8.out] at hsz2; have hy6 := (hgr2.block w.heap.size (blk_lt Hb6.out) (fun e => by injection e; omega)).trans Hb6.out; have hy8 := (hgr2.block (w.heap.size + 1) (blk_lt Hb8.out) (fun e => by injection e; omega)).trans Hb8.out; have hgr9 := Hg8.out.trans hgr2; clear q0 q1 qz0 qz1; unfold Rdr at hrd2; have q0 := blk_cell hrd2 0; have q1 := blk_cell hrd2 1; have qz0 := blk_frozen hrd2 0; have qz1 := blk_frozen hrd2 1; simp only [List.getElem?_toArray, List.getElem?_cons_zero, List.getElem?_cons_succ] at q0 q1; have y0 := blk_cell hy6 0; have y1 := blk_cell hy6 1; have y2 := blk_cell hy6 2; have yz0 := blk_frozen hy6 0; have yz1 := blk_frozen hy6 1; have yz2 := blk_frozen hy6 2; simp only [List.getElem?_toArray, List.getElem?_cons_zero, List.getElem?_cons_succ] at y0 y1 y2; have x0 := blk_cell hy8 0; have x1 := blk_cell hy8 1; have x2 := blk_cell hy8 2; have xz0 := blk_frozen hy8 0; have xz1 := blk_frozen hy8 1; have xz2 := blk_frozen hy8 2; simp only [List.getElem?_toArray, List.getElem?_cons_zero, List.getElem?_cons_succ] at x0 x1 x2; have hl6 := blk_lt hy6; have hl8 := blk_lt hy8; have hlg := blk_lt hrd2; have Hy6 := Lib.hid hy6; have Hy8 := Lib.hid hy8; have Hgr9 := Lib.hid hgr9; have Hrd2 := Lib.hid hrd2; clear hy6 hy8 hgr9 hgr2 hrd2))
            )
          refine bodyPost_ret (node_results rfl (blk_set3 Hy6.out _ _ _) rfl) rfl ⟨_, rfl, by rw [HV3.out]; exact NodeE.err _ _ 3 e (by decide), ?_, (nx : Int), ?_, fun h => by rw [HV3.out] at h; simp [PR.err] at h⟩
          · exact gr_fresh (gr_fresh (gr_fresh Hgr9.out (Nat.le_refl _) _) (Nat.le_refl _) _) (Nat.le_refl _) _
          · exact blk_set_far (blk_set_far (blk_set_far Hrd2.out (fun e => hg6 e.symm) _) (fun e => hg6 e.symm) _) (fun e => hg6 e.symm) _
        · have HV3 := Lib.hid (HV2.out.trans (if_neg c4))
          cases hcm : comp b[i]
          · have HV4 := Lib.hid (HV3.out.trans (if_pos (by rw [hcm])))
            obtain ⟨A', c', hsl, hrc, hlc⟩ := slice_mid (P := Tryd.prog) Tryd.underlying22 info5 HR.out nx l (by omega)
            have hcut : cut b nx (nx + l) = (b.drop nx).take l := by unfold cut; rw [Nat.add_sub_cancel_left]
            have hylen : ((b.drop nx).take l).length = l := by rw [List.length_take, List.length_drop]; omega
            rw [← hcut] at hrc hylen
            generalize hys : cut b nx (nx + l) = ys at HV4 hrc hylen
            have HYL := Lib.hid hylen
            have Hrc := Lib.hid hrc; clear hrc
            clear HV2 HV3 hylen hys hcut
            go_enter Tryd.func24, Tryd.ntmps24
            go_wp2
            go_region_held3 (fun w' => w'.cell? ⟨g, 0, none⟩ = some (.slice (some ad) b.length c) ∧ w'.cell? ⟨g, 1, none⟩ = some (.int .i64 (i : Int)) ∧ w'.cell? (ad.add i) = some (.int .u8 ((b[i].toNat : Nat) : Int))) (go_keep) ((fail))
            go_wp2_with (first | (go_at_call 38; go_must (refine (composed_any b[i] _).mono ?_; rw [hcm]; rintro e w1 ⟨rfl, rfl⟩)) |
              (go_at_call 36; go_must (refine (right_any b[i] _).mono ?_; rw [ht]; rintro e w1 ⟨rfl, rfl⟩)) | (go_at_call 37; go_must (refine Hlen.out.mono ?_; rintro e9 w2 ⟨rfl, hgr2, j, hrd2, hj2⟩; rw [Herr.out]; obtain rfl := hj2 K1.out; clear hj2; have hsz2 := hgr2.size; rw [← Hl8.out] at hsz2; have hy6 := (hgr2.block w.heap.size (blk_lt Hb6.out) (fun e => by injection e; omega)).trans Hb6.out; have hy8 := (hgr2.block (w.heap.size + 1) (blk_lt Hb8.out) (fun e => by injection e; omega)).trans Hb8.out; have hgr9 := Hg8.out.trans hgr2; clear q0 q1 qz0 qz1; unfold Rdr at hrd2; have q0 := blk_cell hrd2 0; have q1 := blk_cell hrd2 1; have qz0 := blk_frozen hrd2 0; have qz1 := blk_frozen hrd2 1; simp only [List.getElem?_toArray, List.getElem?_cons_zero, List.getElem?_cons_succ] at q0 q1; have y0 := blk_cell hy6 0; have y1 := blk_cell hy6 1; have y2 := blk_cell hy6 2; have yz0 := blk_frozen hy6 0; have yz1 := blk_frozen hy6 1; have yz2 := blk_frozen hy6 2; simp only [List.getElem?_toArray, List.getElem?_cons_zero, List.getElem?_cons_succ] at y0 y1 y2; have x0 := blk_cell hy8 0; have x1 := blk_cell hy8 1; have x2 := blk_cell hy8 2; have xz0 := blk_frozen hy8 0; have xz1 := blk_frozen hy8 1; have xz2 := blk_frozen hy8 2; simp only [List.getElem?_toArray, List.getElem?_cons_zero, List.getElem?_cons_succ] at x0 x1 x2; have hl6 := blk_lt hy6; have hl8 := blk_lt hy8; have hlg := blk_lt hrd2; have Hy6 := Lib.hid hy6; have Hy8 := Lib.hid hy8; have Hgr9 := Lib.hid hgr9; have Hrd2 := Lib.hid hrd2; clear hy6 hy8 hgr9 hgr2 hrd2))
              )
            obtain ⟨w2, rfl⟩ : ∃ W : World, W = w1 := ⟨_, rfl⟩
            have hrc2 := (Hrc.out.grown Hgr9.out (fun k hk e => hS k hk (by injection e))).old (bl_drew (bl_refl w2))
            rw [← HYL.out] at hrc2 hlc
            have Hrc2 := Lib.hid hrc2; clear hrc2
            go_still_tail 10, (by kernel_rfl)
            change wpList _ _ _ _ _ w2.drew
            rw [← HYL.out]
            go_wp2_with (go_at_call 39; go_must (refine (Clone_any _ _ _ ys _ Hrc2.out (by have := HYL.out; omega)).mono ?_; rintro e9 w3 ⟨v, rfl, ho, hbl⟩; have hbl3 := (bl_drew (bl_refl w2)).trans hbl; have hz6 := (hbl3.block _ hl6).trans Hy6.out; have hz8 := (hbl3.block _ hl8).trans Hy8.out; have hzg := (hbl3.block _ hlg).trans Hrd2.out; clear q0 q1 qz0 qz1 y0 y1 y2 yz0 yz1 yz2 x0 x1 x2 xz0 xz1 xz2; have q0 := blk_cell hzg 0; have q1 := blk_cell hzg 1; have qz0 := blk_frozen hzg 0; have qz1 := blk_frozen hzg 1; simp only [List.getElem?_toArray, List.getElem?_cons_zero, List.getElem?_cons_succ] at q0 q1; have y0 := blk_cell hz6 0; have y1 := blk_cell hz6 1; have y2 := blk_cell hz6 2; have yz0 := blk_frozen hz6 0; have yz1 := blk_frozen hz6 1; have yz2 := blk_frozen hz6 2; simp only [List.getElem?_toArray, List.getElem?_cons_zero, List.getElem?_cons_succ] at y0 y1 y2; have x0 := blk_cell hz8 0; have x1 := blk_cell hz8 1; have x2 := blk_cell hz8 2; have xz0 := blk_frozen hz8 0; have xz1 := blk_frozen hz8 1; have xz2 := blk_frozen hz8 2; simp only [List.getElem?_toArray, List.getElem?_cons_zero, List.getElem?_cons_succ] at x0 x1 x2; have hl63 := blk_lt hz6; have hl83 := blk_lt hz8; have hlg3 := blk_lt hzg; have hov := ho.bytes_slice; obtain ⟨A9, c9, rfl, hc9, _⟩ := hov; have Hz6 := Lib.hid hz6; have Hz8 := Lib.hid hz8; have Hzg := Lib.hid hzg; have Hbl3 := Lib.hid hbl3; have Hbl := Lib.hid hbl; have Ho := Lib.hid ho; clear hz6 hz8 hzg hbl3 hbl ho))
            refine bodyPost_ret (node_results rfl (blk_set3 (blk_set_far (blk_set_far Hz6.out (by simp) _) hg6 _) _ _ _) rfl) rfl ⟨_, rfl, ?_, ?_, (nx : Int) + (ys.length : Int), ?_, ?_⟩
            · rw [HV4.out]
              refine ⟨A9, c9, none, 0, rfl, hc9, Nat.le_refl _, Ho.out.bytes_rep.move' fun k hk hl => ?_, .nil _ _ _⟩
              have hk2 : w2.heap.size ≤ k := hk
              refine ⟨by show w.heap.size ≤ k; omega, ?_⟩
              (repeat (refine (Below.heap_setCell _ _ _ _ (by simp; omega)).trans ?_)); with_reducible rfl
            · exact gr_fresh (gr_fresh (gr_fresh (gr_set (gr_fresh (gr_below Hgr9.out Hbl3.out) (Nat.le_succ _) _) _ _) (Nat.le_refl _) _) (Nat.le_refl _) _) (Nat.le_refl _) _
            · exact blk_set_far (blk_set_far (blk_set_far (blk_set (blk_set_far Hzg.out (by simp; omega) _) 1 _) (fun e => hg6 e.symm) _) (fun e => hg6 e.symm) _) (fun e => hg6 e.symm) _
            · intro _
              rw [HV4.out]
              have := HYL.out
              show (nx : Int) + (ys.length : Int) = ((nx + l : Nat) : Int)
              omega
          · have HV4 := Lib.hid (HV3.out.trans (if_neg (by rw [hcm]; simp)))
            clear HV2 HV3
            generalize hR : pread (d + 1) b i e = R at HV4
            have HRR := Lib.hid hR
            clear hR
            go_enter Tryd.func24, Tryd.ntmps24
            go_wp2
            go_region_held3 (fun w' => w'.cell? ⟨g, 0, none⟩ = some (.slice (some ad) b.length c) ∧ w'.cell? ⟨g, 1, none⟩ = some (.int .i64 (i : Int)) ∧ w'.cell? (ad.add i) = some (.int .u8 ((b[i].toNat : Nat) : Int))) (go_keep) ((fail))
            go_wp2_with (first | (go_at_call 38; go_must (refine (composed_any b[i] _).mono ?_; rw [hcm]; rintro e w1 ⟨rfl, rfl⟩)) |
              (go_at_call 36; go_must (refine (right_any b[i] _).mono ?_; rw [ht]; rintro e w1 ⟨rfl, rfl⟩)) | (go_at_call 37; go_must (refine Hlen.out.mono ?_; rintro e9 w2 ⟨rfl, hgr2, j, hrd2, hj2⟩; rw [Herr.out]; obtain rfl := hj2 K1.out; clear hj2; have hsz2 := hgr2.size; rw [← Hl8.out] at hsz2; have hy6 := (hgr2.block w.heap.size (blk_lt Hb6.out) (fun e => by injection e; omega)).trans Hb6.out; have hy8 := (hgr2.block (w.heap.size + 1) (blk_lt Hb8.out) (fun e => by injection e; omega)).trans Hb8.out; have hgr9 := Hg8.out.trans hgr2; clear q0 q1 qz0 qz1; unfold Rdr at hrd2; have q0 := blk_cell hrd2 0; have q1 := blk_cell hrd2 1; have qz0 := blk_frozen hrd2 0; have qz1 := blk_frozen hrd2 1; simp only [List.getElem?_toArray, List.getElem?_cons_zero, List.getElem?_cons_succ] at q0 q1; have y0 := blk_cell hy6 0; have y1 := blk_cell hy6 1; have y2 := blk_cell hy6 2; have yz0 := blk_frozen hy6 0; have yz1 := blk_frozen hy6 1; have yz2 := blk_frozen hy6 2; simp only [List.getElem?_toArray, List.getElem?_cons_zero, List.getElem?_cons_succ] at y0 y1 y2; have x0 := blk_cell hy8 0; have x1 := blk_cell hy8 1; have x2 := blk_cell hy8 2; have xz0 := blk_frozen hy8 0; have xz1 := blk_frozen hy8 1; have xz2 := blk_frozen hy8 2; simp only [List.getElem?_toArray, List.getElem?_cons_zero, List.getElem?_cons_succ] at x0 x1 x2; have hl6 := blk_lt hy6; have hl8 := blk_lt hy8; have hlg := blk_lt hrd2; have Hy6 := Lib.hid hy6; have Hy8 := Lib.hid hy8; have Hgr9 := Lib.hid hgr9; have Hrd2 := Lib.hid hrd2; clear hy6 hy8 hgr9 hgr2 hrd2))
              )
            obtain ⟨w2, rfl⟩ : ∃ W : World, W = w1 := ⟨_, rfl⟩
            go_loopw [12] (fun _ wr => ∃ (x fuel : Nat) (acc : List Tre) (AK : Option Addr) (nK cK : Nat), x ≤ nx + l ∧ nx + l - x < fuel ∧ acc.length ≤ x
                    ∧ R = ploop (fun y => pread d b y (nx + l)) b[i] (nx + l) fuel x acc ∧ w.grownBy wr (some g) ∧ Rdr wr g (some ad) c b (x : Int)
                    ∧ wr.heap[w.heap.size]? = some (.cells #[.int .u8 0, .slice none 0 0, .slice none 0 0] 26 (0, 0))
                    ∧ wr.heap[w.heap.size + 1]? = some (.cells #[.int .u8 ((b[i].toNat : Nat) : Int), .slice none 0 0, .slice AK nK cK] 26 (0, 0))
                    ∧ Own (fun k => w.heap.size + 1 < k) wr (w.heap.size + 2) 26 (.slice AK nK cK) 3 (Tre.cellsL acc)) (fun _ wr => match wr.cell? ⟨g, 1, none⟩ with | some v => nx + l - (intOf v).toNat | none => 0)
            case atStart => exact ⟨nx, l + 1, [], none, 0, 0, by omega, by omega, by simp, HV4.out, Hgr9.out, Hrd2.out, Hy6.out, Hy8.out, Own.nil _ _ _ _ _⟩
            case round =>
              obtain ⟨x, fuel, acc, AK, nK, cK, hx1, hx2, hx3, hR9, hgr, hrd, hr6, hr8, hown⟩ := hrel
              clear HV4 Hy6 Hy8 Hgr9 Hrd2 q0 q1 qz0 qz1 y0 y1 y2 yz0 yz1 yz2 x0 x1 x2 xz0 xz1 xz2 hl6 hl8 hlg d0
              obtain ⟨fl, rfl⟩ : ∃ fl, fuel = fl + 1 := ⟨fuel - 1, by omega⟩
              unfold Rdr at hrd
              have hlg := blk_lt hrd
              have hl6 := blk_lt hr6
              have hl8 := blk_lt hr8
              have q0 := blk_cell hrd 0; have q1 := blk_cell hrd 1; have qz0 := blk_frozen hrd 0; have qz1 := blk_frozen hrd 1; simp only [List.getElem?_toArray, List.getElem?_cons_zero, List.getElem?_cons_succ] at q0 q1
              have y0 := blk_cell hr6 0; have y1 := blk_cell hr6 1; have y2 := blk_cell hr6 2; have yz0 := blk_frozen hr6 0; have yz1 := blk_frozen hr6 1; have yz2 := blk_frozen hr6 2; simp only [List.getElem?_toArray, List.getElem?_cons_zero, List.getElem?_cons_succ] at y0 y1 y2
              have x0 := blk_cell hr8 0; have x1 := blk_cell hr8 1; have x2 := blk_cell hr8 2; have xz0 := blk_frozen hr8 0; have xz1 := blk_frozen hr8 1; have xz2 := blk_frozen hr8 2; simp only [List.getElem?_toArray, List.getElem?_cons_zero, List.getElem?_cons_succ] at x0 x1 x2
              by_cases hlt9 : x < nx + l
              · have hih := ih S g (some ad) c b x (nx + l) ((nx : Int) + (l : Int)) (ab + 1) wr (by omega) (by have := HAB.out; omega) (HR.out.grown hgr (fun k hk e => hS k hk (by injection e))) hS hrd (by omega) hx1 hb (by omega)
                by_cases hcd : (pread d b x (nx + l)).code = 0
                · obtain ⟨_, _, _, p4, p5, _⟩ := pread_ok d b x (nx + l) (by omega) hcd
                  have hR10 : R = ploop (fun y => pread d b y (nx + l)) b[i] (nx + l) fl (pread d b x (nx + l)).next (acc ++ [(pread d b x (nx + l)).node]) := by rw [hR9, ploop, if_pos hlt9, if_neg (by rw [hcd]; simp)]
                  have herr1 : errV (pread d b x (nx + l)).code (pread d b x (nx + l)).at_ = .nilIface := by rw [hcd]; rfl
                  clear hR9
                  generalize hpr : pread d b x (nx + l) = pr at hih hcd hR10 herr1 p4 p5
                  have Hih := Lib.hid hih; have Hcd := Lib.hid hcd; have HR10 := Lib.hid hR10; have Herr1 := Lib.hid herr1; have Hgr := Lib.hid hgr; have Hrd := Lib.hid hrd; have Hr6 := Lib.hid hr6; have Hr8 := Lib.hid hr8; have Hown := Lib.hid hown; clear hih hcd hR10 herr1 hgr hrd hr6 hr8 hown
                  clear hpr
                  go_wp2_with fail
                  refine Hih.out.mono ?_
                  rintro ev w1 ⟨v, rfl, ⟨A1, k1, A2, k2, rfl, m1, m2, g1, g2⟩, hg1, j, hrd1, hj⟩
                  rw [Herr1.out]
                  obtain rfl := hj Hcd.out
                  have hy6 := (hg1.block w.heap.size hl6 (fun e => by injection e; omega)).trans Hr6.out
                  have hy8 := (hg1.block (w.heap.size + 1) hl8 (fun e => by injection e; omega)).trans Hr8.out
                  have hgr1 := Hgr.out.trans hg1
                  have how1 := Hown.out.move (S' := fun k => w.heap.size + 1 < k) (fun k hk => hg1.block k (Hown.out.lt k hk).2 (fun e => by injection e; have := (Hown.out.lt k hk).1; omega)) (fun k hk _ hl => ⟨hk, hg1.block k hl (fun e => by injection e; omega)⟩)
                  have hws := hg1.size
                  clear hj q0 q1 qz0 qz1 y0 y1 y2 yz0 yz1 yz2 x0 x1 x2 xz0 xz1 xz2
                  unfold Rdr at hrd1
                  have x0 := blk_cell hy8 0; have x1 := blk_cell hy8 1; have x2 := blk_cell hy8 2; have xz0 := blk_frozen hy8 0; have xz1 := blk_frozen hy8 1; have xz2 := blk_frozen hy8 2; simp only [List.getElem?_toArray, List.getElem?_cons_zero, List.getElem?_cons_succ] at x0 x1 x2
                  have hl81 := blk_lt hy8
                  have Hy6 := Lib.hid hy6; have Hy8 := Lib.hid hy8; have Hgr1 := Lib.hid hgr1; have How1 := Lib.hid how1; have G1 := Lib.hid g1; have G2 := Lib.hid g2; have Hrd1 := Lib.hid hrd1; have Hg1 := Lib.hid hg1; clear hy6 hy8 hgr1 how1 g1 g2 hrd1 hg1
                  go_wp2_with (at_builtin; go_must (refine wp_append_one' (S := fun k => w.heap.size + 1 < k) (B := w.heap.size + 2) rfl _ _ rfl Tryd.underlying24 info26 rfl (Nat.succ_pos _) (Nat.succ_pos _) (.slice AK nK cK) (Tre.cellsL acc) pr.node.cells [.int .u8 ((pr.node.tag.toNat : Nat) : Int), .slice A1 pr.node.bs.length k1, .slice A2 pr.node.kids.length k2] rfl (w1.heap.size + 1) ?hgg rfl (How1.out.below (bl_alloc (bl_refl _) _)) ?hBB rfl ?h11 (Tre.cells_length _) ?hreps ?hlen ?_; (case hgg => simp); (case hBB => simp; omega); (case h11 => simp [Value.oneCell']); (case hlen => intro n9 hn9; rw [Tre.cellsL_length] at hn9; omega); (case hreps => exact elem_reps (Hown.out.lt) G1.out G2.out (bl_alloc (bl_refl _) _) (fun k hk => Nat.lt_of_lt_of_le hl8 hk)); intro v9 w3 ho9 hbl9 hg9 hat9; obtain ⟨A9, n9, c9, rfl, _⟩ := ho9.len; have hbl8 := hbl9 _ (Below.refl (w.heap.size + 2) _); have hz6 := (hbl8.block w.heap.size (by omega)).trans ((alloc_old _ _ _ (blk_lt Hy6.out)).trans Hy6.out); have hz8 := (hbl8.block (w.heap.size + 1) (by omega)).trans ((alloc_old _ _ _ (blk_lt Hy8.out)).trans Hy8.out); have hzg := (hbl8.block g (by omega)).trans ((alloc_old _ _ _ (blk_lt Hrd1.out)).trans Hrd1.out); have z0 := blk_cell hz8 0; have z1 := blk_cell hz8 1; have z2 := blk_cell hz8 2; have zz0 := blk_frozen hz8 0; have zz1 := blk_frozen hz8 1; have zz2 := blk_frozen hz8 2; simp only [List.getElem?_toArray, List.getElem?_cons_zero, List.getElem?_cons_succ] at z0 z1 z2; have hl83 := blk_lt hz8; have HBL := Lib.hid (hbl9 (w1.alloc (.cells #[.int .u8 ((pr.node.tag.toNat : Nat) : Int), .slice A1 pr.node.bs.length k1, .slice A2 pr.node.kids.length k2] 26)) (Below.refl _ _)); have Hz6 := Lib.hid hz6; have Hz8 := Lib.hid hz8; have Hzg := Lib.hid hzg; have Ho9 := Lib.hid ho9; have Hbl8 := Lib.hid hbl8; have Hbl9 := Lib.hid hbl9; have Hg9 := Lib.hid hg9; clear hz6 hz8 hzg ho9 hbl8 hbl9 hg9; clear hat9))
                  have hrg : (w3.setCell ⟨w.heap.size + 1, 2, none⟩ (.slice A9 n9 c9)).heap[g]? = some (.cells #[.slice (some ad) b.length c, .int .i64 (pr.next : Int)] 59 (0, 0)) := blk_set_far Hzg.out (by simp; omega) _
                  have hm1 := blk_cell hrg 1
                  have hm2 := blk_cell Hrd.out 1
                  have ho := Ho9.out
                  rw [show Tre.cellsL acc ++ pr.node.cells = Tre.cellsL (acc ++ [pr.node]) by rw [Tre.cellsL_append]; simp [Tre.cellsL]] at ho
                  refine ⟨⟨pr.next, fl, acc ++ [pr.node], A9, n9, c9, p5, by omega, by rw [List.length_append, List.length_singleton]; omega, HR10.out, gr_fresh (gr_below0 (gr_alloc Hgr1.out _) (HBL.out.mono (by omega))) (Nat.le_succ _) _, hrg, blk_set_far Hz6.out (by simp) _, blk_set Hz8.out 2 _, ?_⟩, ?_⟩
                  · exact ho.move (fun k hk => by have := (ho.lt k hk).1; exact Below.heap_setCell _ _ _ _ (by simp; omega)) (fun k hk _ _ => ⟨hk, Below.heap_setCell _ _ _ _ (by simp; omega)⟩)
                  · rw [hm1, hm2]
                    simp [intOf]
                    omega
                · have hR10 : R = pread d b x (nx + l) := by rw [hR9, ploop, if_pos hlt9, if_pos hcd]; exact (pread_err d b x (nx + l) hcd).symm
                  have hperr := pread_err d b x (nx + l) hcd
                  have herr1 := errV_pos (pread d b x (nx + l)).code (pread d b x (nx + l)).at_ hcd
                  clear hR9
                  generalize hpr : pread d b x (nx + l) = pr at hih hcd hR10 hperr herr1
                  have Hih := Lib.hid hih; have Hcd := Lib.hid hcd; have HR10 := Lib.hid hR10; have Herr1 := Lib.hid herr1; have Hperr := Lib.hid hperr; have Hgr := Lib.hid hgr; have Hrd := Lib.hid hrd; have Hr6 := Lib.hid hr6; have Hr8 := Lib.hid hr8; have Hown := Lib.hid hown; clear hih hcd hR10 herr1 hperr hgr hrd hr6 hr8 hown
                  clear hpr
                  go_wp2_with fail
                  refine Hih.out.mono ?_
                  rintro ev w1 ⟨v, rfl, ⟨A1, k1, A2, k2, rfl, m1, m2, g1, g2⟩, hg1, j, hrd1, hj⟩
                  rw [Herr1.out]
                  have hy6 := (hg1.block w.heap.size hl6 (fun e => by injection e; omega)).trans Hr6.out
                  have hgr1 := Hgr.out.trans hg1
                  have hws := hg1.size
                  clear hj q0 q1 qz0 qz1 y0 y1 y2 yz0 yz1 yz2 x0 x1 x2 xz0 xz1 xz2 g1 g2
                  unfold Rdr at hrd1
                  have y0 := blk_cell hy6 0; have y1 := blk_cell hy6 1; have y2 := blk_cell hy6 2; have yz0 := blk_frozen hy6 0; have yz1 := blk_frozen hy6 1; have yz2 := blk_frozen hy6 2; simp only [List.getElem?_toArray, List.getElem?_cons_zero, List.getElem?_cons_succ] at y0 y1 y2
                  have hl61 := blk_lt hy6
                  have Hy6 := Lib.hid hy6; have Hgr1 := Lib.hid hgr1; have Hrd1 := Lib.hid hrd1; have Hg1 := Lib.hid hg1; clear hy6 hgr1 hrd1 hg1
                  go_wp2
                  refine bodyPost_ret (node_results rfl (alloc_keep (blk_set3 Hy6.out _ _ _) _) rfl) rfl ⟨_, rfl, ?_, ?_, j, ?_, ?_⟩
                  · rw [HR10.out, Hperr.out]
                    exact NodeE.err _ _ _ _ Hcd.out
                  · exact gr_alloc (gr_fresh (gr_fresh (gr_fresh Hgr1.out (Nat.le_refl _) _) (Nat.le_refl _) _) (Nat.le_refl _) _) _
                  · exact alloc_keep (blk_set_far (blk_set_far (blk_set_far Hrd1.out (fun e => hg6 e.symm) _) (fun e => hg6 e.symm) _) (fun e => hg6 e.symm) _) _
                  · intro h
                    rw [HR10.out] at h
                    exact absurd h Hcd.out
              · have HR10 := Lib.hid (show R = ⟨⟨b[i], [], acc⟩, x, 0, 0⟩ by rw [hR9, ploop, if_neg hlt9])
                obtain ⟨_, _, _, he9, hl9, hc9, _⟩ := hown.len
                cases he9
                have hn9 : nK = acc.length := by rw [Tre.cellsL_length] at hl9; omega
                subst hn9
                clear hR9
                have Hgr := Lib.hid hgr; have Hrd := Lib.hid hrd; have Hr6 := Lib.hid hr6; have Hr8 := Lib.hid hr8; have Hown := Lib.hid hown; clear hgr hrd hr6 hr8 hown
                go_wp2
                refine bodyPost_ret (node_results rfl (blk_set3 Hr6.out _ _ _) rfl) rfl ⟨_, rfl, ?_, ?_, (x : Int), ?_, ?_⟩
                · rw [HR10.out]
                  refine ⟨none, 0, AK, cK, rfl, Nat.le_refl _, hc9, .nil _ _ _, ?_⟩
                  have hrp := Hown.out.rep (S' := fun k => w.heap.size + 1 < k) (by decide) (fun k hk _ => hk) (fun k hk _ => hk)
                  refine hrp.move' fun k (hk : w.heap.size + 1 < k) hl => ⟨by show w.heap.size ≤ k; omega, ?_⟩
                  (repeat (refine (Below.heap_setCell _ _ _ _ (by simp; omega)).trans ?_)); with_reducible rfl
                · exact gr_fresh (gr_fresh (gr_fresh Hgr.out (Nat.le_refl _) _) (Nat.le_refl _) _) (Nat.le_refl _) _
                · exact blk_set_far (blk_set_far (blk_set_far Hrd.out (fun e => hg6 e.symm) _) (fun e => hg6 e.symm) _) (fun e => hg6 e.symm) _
                · intro _
                  rw [HR10.out]
      · have HV2 := Lib.hid (HV.out.trans (if_pos k1))
        have herr : errV L.code L.at_ = .iface 70 (.agg #[.int .i64 (L.code : Int), .int .i64 (L.at_ : Int)]) := errV_pos _ _ k1
        have K1 := Lib.hid k1
        have Herr := Lib.hid herr; clear herr
        clear k1 hln
        go_enter Tryd.func24, Tryd.ntmps24
        go_wp2
        go_region_held3 (fun w' => w'.cell? ⟨g, 0, none⟩ = some (.slice (some ad) b.length c) ∧ w'.cell? ⟨g, 1, none⟩ = some (.int .i64 (i : Int)) ∧ w'.cell? (ad.add i) = some (.int .u8 ((b[i].toNat : Nat) : Int))) (go_keep) ((fail))
        go_wp2_with (first | (go_at_call 36; go_must (refine (right_any b[i] _).mono ?_; rw [ht]; rintro e w1 ⟨rfl, rfl⟩)) | (go_at_call 37; go_must (refine Hlen.out.mono ?_; rintro e9 w2 ⟨rfl, hgr2, j, hrd2, hj2⟩; rw [Herr.out]; have hsz2 := hgr2.size; rw [← Hl8.out] at hsz2; have hy6 := (hgr2.block w.heap.size (blk_lt Hb6.out) (fun e => by injection e; omega)).trans Hb6.out; have hy8 := (hgr2.block (w.heap.size + 1) (blk_lt Hb8.out) (fun e => by injection e; omega)).trans Hb8.out; have hgr9 := Hg8.out.trans hgr2; have y0 := blk_cell hy6 0; have y1 := blk_cell hy6 1; have y2 := blk_cell hy6 2; have yz0 := blk_frozen hy6 0; have yz1 := blk_frozen hy6 1; have yz2 := blk_frozen hy6 2; simp only [List.getElem?_toArray, List.getElem?_cons_zero, List.getElem?_cons_succ] at y0 y1 y2; have x0 := blk_cell hy8 0; have x1 := blk_cell hy8 1; have x2 := blk_cell hy8 2; have xz0 := blk_frozen hy8 0; have xz1 := blk_frozen hy8 1; have xz2 := blk_frozen hy8 2; simp only [List.getElem?_toArray, List.getElem?_cons_zero, List.getElem?_cons_succ] at x0 x1 x2; have hl6 := blk_lt hy6; have hl8 := blk_lt hy8; have Hy6 := Lib.hid hy6; have Hy8 := Lib.hid hy8; have Hgr9 := Lib.hid hgr9; have Hrd2 := Lib.hid hrd2; have Hj2 := Lib.hid hj2; clear hy6 hy8 hgr9 hgr2 hrd2 hj2)))
        refine bodyPost_ret (node_results rfl (blk_set3 Hy6.out _ _ _) rfl) rfl ⟨_, rfl, by rw [HV2.out]; exact NodeE.err _ _ _ _ K1.out, ?_, j, ?_, fun h => by rw [HV2.out] at h; exact absurd h K1.out⟩
        · exact gr_fresh (gr_fresh (gr_fresh Hgr9.out (Nat.le_refl _) _) (Nat.le_refl _) _) (Nat.le_refl _) _
        · exact blk_set_far (blk_set_far (blk_set_far Hrd2.out (fun e => hg6 e.symm) _) (fun e => hg6 e.symm) _) (fun e => hg6 e.symm) _
theorem node_calls (d : Nat) : NodeSaid d := by
  induction d with
  | zero => exact node_zero
  | succ d ih => exact node_succ d ih
end Go.Proofs.YtfgeldeaahdddaaDoor
