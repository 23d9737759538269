import Derived.Test.YtfgeldeaahdddaaDoorDerD
import Derived.StillTailTactics
set_option linter.unusedVariables false
set_option linter.unusedSimpArgs false
namespace Go.Proofs.YtfgeldeaahdddaaDoor
open Go.RowKit Lx

set_option maxRecDepth 100000 in
set_option maxHeartbeats 800000 in
theorem lawSame_calls (m : Nat) : ∀ (a b : Tre) (S S' : Nat → Prop) (v v' : Value) (w : World), a.depth ≤ m → TreV S w v a → TreV S' w v' b →
    Calls Tryd.prog 11 #[v, v'] w fun e w' => e = .returned (.bool (eqT a b)) ∧ Below w.heap.size w w' := by
  induction m with
  | zero => intro a b S S' v v' w h; have := Tre.depth_eq a; omega
  | succ m ih =>
    intro a b S S' v v' w hd hv hv'
    obtain ⟨A1, c1, A, c, rfl, hc1, hc, hB, hK⟩ := hv
    obtain ⟨A1', c1', A', c', rfl, hc1', hc', hB', hK'⟩ := hv'
    obtain ⟨_, _, he, hlc, hlm, hat⟩ := kids_parts hK
    cases he
    obtain ⟨_, _, he, hlc', hlm', hat'⟩ := kids_parts hK'
    cases he
    have hdl : Tre.depthL a.kids ≤ m := by have := Tre.depth_eq a; omega
    have HD := Lib.hid hdl
    have HP := Lib.hid hat
    have HP' := Lib.hid hat'
    have R1 := Lib.hid hB
    have R1' := Lib.hid hB'
    clear hB hK hB' hK' hd hat hat' hdl
    by_cases ht : a.tag = b.tag
    · have ht1 : (((a.tag.toNat : Nat) : Int) != ((b.tag.toNat : Nat) : Int)) = false := by simp [ht]
      by_cases hbs : a.bs = b.bs
      · have hb1 : decide (a.bs = b.bs) = true := by simp [hbs]
        have HR := Lib.hid (eqT_parts a b ht hbs)
        clear ht hbs
        by_cases hl : a.kids.length = b.kids.length
        · have hl1 : ((a.kids.length : Int) != (b.kids.length : Int)) = false := by simp [hl]
          have hl2 : (a.kids.length != b.kids.length) = false := by simp [hl]
          have HL := Lib.hid hl
          have hle : a.kids.length ≤ b.kids.length := by omega
          clear hl
          go_enter Tryd.func11, Tryd.ntmps11
          go_wp2_with (go_at_call 13; go_must (refine (Same01_any S S' _ _ a.bs b.bs _ (R1.out.old (by repeat (first | exact bl_refl _ | apply bl_alloc))) (R1'.out.old (by repeat (first | exact bl_refl _ | apply bl_alloc)))).mono ?_; rw [hb1]; rintro e w1 ⟨rfl, n1, rfl⟩))
          go_loopw [5] (fun i wr => ∃ k : Nat, k ≤ a.kids.length ∧ i = .int .i64 (k : Int) ∧ a.kids.take k = b.kids.take k ∧ Below w.heap.size w wr ∧ wr.heap[w.heap.size]? = some (.cells #[.int .u8 (a.tag.toNat : Int), .slice A1 a.bs.length c1, .slice A a.kids.length c] 26 (0, 0))
            ∧ wr.heap[w.heap.size + 1]? = some (.cells #[.int .u8 (b.tag.toNat : Int), .slice A1' b.bs.length c1', .slice A' b.kids.length c'] 33 (0, 0))) (fun i _ => a.kids.length - (intOf i).toNat)
          case atStart => exact ⟨0, Nat.zero_le _, rfl, rfl, bl_drewN (bl_alloc (bl_alloc (bl_refl _) _) _) _, by have := alloc_old (w.alloc (.cells #[.int .u8 (a.tag.toNat : Int), .slice A1 a.bs.length c1, .slice A a.kids.length c] 26)) (.cells #[.int .u8 (b.tag.toNat : Int), .slice A1' b.bs.length c1', .slice A' b.kids.length c'] 33) w.heap.size (by simp); exact this.trans (new_block _ _), by have := new_block (w.alloc (.cells #[.int .u8 (a.tag.toNat : Int), .slice A1 a.bs.length c1, .slice A a.kids.length c] 26)) (.cells #[.int .u8 (b.tag.toNat : Int), .slice A1' b.bs.length c1', .slice A' b.kids.length c'] 33); simpa using this⟩
          case round =>
            obtain ⟨k, hk, rfl, heq, hb, hx, hx'⟩ := hrel
            have HE := Lib.hid heq
            have q1 := blk_cell hx 1
            have q2 := blk_cell hx 2
            have q1' := blk_cell hx' 1
            have q2' := blk_cell hx' 2
            simp only [List.getElem?_toArray, List.getElem?_cons_zero, List.getElem?_cons_succ] at q1 q2 q1' q2'
            have HX := Lib.hid hx
            have HX' := Lib.hid hx'
            have hgl := blk_lt hx
            have hgl' := blk_lt hx'
            clear heq hx hx'
            by_cases hlt : k < a.kids.length
            · have hlt' : k < b.kids.length := by omega
              obtain ⟨ad, A1, c1, A2, c2, rfl, e0, e1, e2, l1, l2, r1, r2⟩ := HP.out k hlt
              obtain ⟨ad', A1', c1', A2', c2', rfl, e0', e1', e2', l1', l2', r1', r2'⟩ := HP'.out k hlt'
              have d0 := cell_move (hb.block _ (World.block_lt_of_cell? w _ e0)) e0
              have d1 := cell_move (hb.block _ (World.block_lt_of_cell? w _ e1)) e1
              have d2 := cell_move (hb.block _ (World.block_lt_of_cell? w _ e2)) e2
              have d0' := cell_move (hb.block _ (World.block_lt_of_cell? w _ e0')) e0'
              have d1' := cell_move (hb.block _ (World.block_lt_of_cell? w _ e1')) e1'
              have d2' := cell_move (hb.block _ (World.block_lt_of_cell? w _ e2')) e2'
              have hkd : (a.kids[k]).depth ≤ m := Nat.le_trans (Tre.depth_le a.kids _ (List.getElem_mem hlt)) HD.out
              have HB := Lib.hid hb
              have V1 := Lib.hid (show TreV S w _ (a.kids[k]) from ⟨A1, c1, A2, c2, rfl, l1, l2, r1, r2⟩)
              have V2 := Lib.hid (show TreV S' w _ (b.kids[k]) from ⟨A1', c1', A2', c2', rfl, l1', l2', r1', r2'⟩)
              clear e0 e1 e2 e0' e1' e2' r1 r2 r1' r2' hb
              go_wp2
              go_still_tail 10, (by kernel_rfl)
              change wpList _ _ _ _ _ wr.drew
              by_cases ht : a.kids[k] = b.kids[k]
              · have hr := (eqT_iff _ _).2 ht
                have HT := Lib.hid ht
                clear ht
                go_wp2_with (go_at_call 11; go_must (refine (ih (a.kids[k]) (b.kids[k]) S S' _ _ _ hkd (V1.out.old (bl_drew HB.out)) (V2.out.old (bl_drew HB.out))).mono ?_; rw [hr]; rintro e w1 ⟨rfl, hb1⟩; have HB1 := Lib.hid hb1; clear hb1))
                go_roundw
                case rel =>
                  refine ⟨k + 1, by omega, by go_num, ?_, bl_then (bl_drew HB.out) HB1.out, (HB1.out.block _ hgl).trans HX.out, (HB1.out.block _ hgl').trans HX'.out⟩
                  rw [List.take_succ_eq_append_getElem hlt, List.take_succ_eq_append_getElem hlt', HE.out, HT.out]
                case measure => simp [intOf]; omega
              · have hr := eqT_no _ _ ht
                have hf : eqL a.kids b.kids = false := eqL_no _ _ (by intro h; exact ht (by simp only [h]))
                have HF := Lib.hid (HR.out.trans hf)
                clear ht hf
                go_wp2_with (go_at_call 11; go_must (refine (ih (a.kids[k]) (b.kids[k]) S S' _ _ _ hkd (V1.out.old (bl_drew HB.out)) (V2.out.old (bl_drew HB.out))).mono ?_; rw [hr]; rintro e w1 ⟨rfl, hb1⟩; have HB1 := Lib.hid hb1; clear hb1))
                go_ret
                exact ⟨ret_bool HF.out.symm, bl_then (bl_drew HB.out) HB1.out⟩
            · have hf : eqL a.kids b.kids = true := by
                rw [eqL_iff]
                have h1 := HE.out
                have hke : k = a.kids.length := by omega
                rwa [hke, List.take_length, HL.out, List.take_length] at h1
              have HF := Lib.hid (HR.out.trans hf)
              have HB := Lib.hid hb
              clear hf hb
              go_wp2
              go_ret
              exact ⟨ret_bool HF.out.symm, HB.out⟩
        · have hl1 : ((a.kids.length : Int) != (b.kids.length : Int)) = true := by rw [bne_iff_ne]; omega
          have hl2 : (a.kids.length != b.kids.length) = true := by rw [bne_iff_ne]; exact hl
          have HF := Lib.hid (HR.out.trans (eqL_no a.kids b.kids (by intro h; rw [h] at hl; exact hl rfl)))
          clear hl
          go_enter Tryd.func11, Tryd.ntmps11
          go_wp2_with (go_at_call 13; go_must (refine (Same01_any S S' _ _ a.bs b.bs _ (R1.out.old (by repeat (first | exact bl_refl _ | apply bl_alloc))) (R1'.out.old (by repeat (first | exact bl_refl _ | apply bl_alloc)))).mono ?_; rw [hb1]; rintro e w1 ⟨rfl, n1, rfl⟩))
          go_ret
          exact ⟨ret_bool HF.out.symm, bl_drewN (bl_alloc (bl_alloc (bl_refl _) _) _) _⟩
      · have hb1 : decide (a.bs = b.bs) = false := by simp [hbs]
        have HR := Lib.hid (eqT_no a b (by intro h; exact hbs (by rw [h])))
        clear ht hbs
        go_enter Tryd.func11, Tryd.ntmps11
        go_wp2_with (go_at_call 13; go_must (refine (Same01_any S S' _ _ a.bs b.bs _ (R1.out.old (by repeat (first | exact bl_refl _ | apply bl_alloc))) (R1'.out.old (by repeat (first | exact bl_refl _ | apply bl_alloc)))).mono ?_; rw [hb1]; rintro e w1 ⟨rfl, n1, rfl⟩))
        go_ret
        exact ⟨ret_bool HR.out.symm, bl_drewN (bl_alloc (bl_alloc (bl_refl _) _) _) _⟩
    · have ht1 : (((a.tag.toNat : Nat) : Int) != ((b.tag.toNat : Nat) : Int)) = true := by
        rw [bne_iff_ne]; intro h; exact ht (UInt8.toNat_inj.1 (by omega))
      have HR := Lib.hid (eqT_no a b (by intro h; exact ht (by rw [h])))
      clear ht
      go_enter Tryd.func11, Tryd.ntmps11
      go_wp2
      go_ret
      exact ⟨ret_bool HR.out.symm, bl_alloc (bl_alloc (bl_refl _) _) _⟩
end Go.Proofs.YtfgeldeaahdddaaDoor
