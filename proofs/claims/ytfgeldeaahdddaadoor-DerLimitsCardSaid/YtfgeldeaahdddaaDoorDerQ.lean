/- pyxref08.Same. -/
import Derived.Test.YtfgeldeaahdddaaDoorDerE
set_option linter.unusedVariables false
set_option linter.unusedSimpArgs false
namespace Go.Proofs.YtfgeldeaahdddaaDoor
open Go.RowKit Lx

set_option maxRecDepth 100000 in
set_option maxHeartbeats 4000000 in
theorem refSame_calls (m : Nat) : ∀ (a b : Tre) (S S' : Nat → Prop) (v v' : Value) (w : World), a.depth ≤ m → TreV S w v a → TreV S' w v' b →
    Calls Tryd.prog 17 #[v, v'] w fun e w' => e = .returned (.bool (eqT a b)) ∧ Below w.heap.size w w' := by
  induction m with
  | zero => intro a b S S' v v' w h; have := Tre.depth_eq a; omega
  | succ m ih =>
    intro a b S S' v v' w hd hv hv'
    obtain ⟨A1, c1, A, c, rfl, hc1, hc, hB, hK⟩ := hv
    obtain ⟨A1', c1', A', c', rfl, hc1', hc', hB', hK'⟩ := hv'
    obtain ⟨_, _, he, hlc, hlm, hat⟩ := kids_parts hK
    cases he
    obtain ⟨_, _, he, hlc', hlm', hat'⟩ := kids_parts hK'
    cases he
    obtain ⟨_, _, he, hbc, hbm, hbat⟩ := byts_parts hB
    cases he
    obtain ⟨_, _, he, hbc', hbm', hbat'⟩ := byts_parts hB'
    cases he
    have hdl : Tre.depthL a.kids ≤ m := by have := Tre.depth_eq a; omega
    have HD := Lib.hid hdl
    have HP := Lib.hid hat
    have HP' := Lib.hid hat'
    have HQ := Lib.hid hbat
    have HQ' := Lib.hid hbat'
    clear hB hK hB' hK' hd hat hat' hbat hbat' hdl
    by_cases ht : a.tag = b.tag
    · have ht1 : (((a.tag.toNat : Nat) : Int) != ((b.tag.toNat : Nat) : Int)) = false := by simp [ht]
      by_cases hlb : a.bs.length = b.bs.length
      · have hlb1 : ((a.bs.length : Int) != (b.bs.length : Int)) = false := by simp [hlb]
        have hlb2 : (a.bs.length != b.bs.length) = false := by simp [hlb]
        by_cases hl : a.kids.length = b.kids.length
        · have hl1 : ((a.kids.length : Int) != (b.kids.length : Int)) = false := by simp [hl]
          have hl2 : (a.kids.length != b.kids.length) = false := by simp [hl]
          have HL := Lib.hid hl
          have HLB := Lib.hid hlb
          have HT := Lib.hid ht
          have hle : a.kids.length ≤ b.kids.length := by omega
          have hleb : a.bs.length ≤ b.bs.length := by omega
          clear hl hlb ht
          go_enter Tryd.func17, Tryd.ntmps17
          go_wp2
          have hn1 := alloc_keep (new_block w (.cells #[.int .u8 (a.tag.toNat : Int), .slice A1 a.bs.length c1, .slice A a.kids.length c] 33)) (.cells #[.int .u8 (b.tag.toNat : Int), .slice A1' b.bs.length c1', .slice A' b.kids.length c'] 33)
          have hn2 : ((w.alloc (.cells #[.int .u8 (a.tag.toNat : Int), .slice A1 a.bs.length c1, .slice A a.kids.length c] 33)).alloc (.cells #[.int .u8 (b.tag.toNat : Int), .slice A1' b.bs.length c1', .slice A' b.kids.length c'] 33)).heap[w.heap.size + 1]? = some (.cells #[.int .u8 (b.tag.toNat : Int), .slice A1' b.bs.length c1', .slice A' b.kids.length c'] 33 (0, 0)) := by simpa using new_block (w.alloc (.cells #[.int .u8 (a.tag.toNat : Int), .slice A1 a.bs.length c1, .slice A a.kids.length c] 33)) (.cells #[.int .u8 (b.tag.toNat : Int), .slice A1' b.bs.length c1', .slice A' b.kids.length c'] 33)
          have Hn1 := Lib.hid hn1; have Hn2 := Lib.hid hn2; clear hn1 hn2
          go_loopw [5] (fun i wr => ∃ k : Nat, k ≤ a.bs.length ∧ i = .int .i64 (k : Int) ∧ a.bs.take k = b.bs.take k ∧ Below w.heap.size w wr ∧ wr.heap[w.heap.size]? = some (.cells #[.int .u8 (a.tag.toNat : Int), .slice A1 a.bs.length c1, .slice A a.kids.length c] 33 (0, 0))
            ∧ wr.heap[w.heap.size + 1]? = some (.cells #[.int .u8 (b.tag.toNat : Int), .slice A1' b.bs.length c1', .slice A' b.kids.length c'] 33 (0, 0))) (fun i _ => a.bs.length - (intOf i).toNat)
          case atStart => exact ⟨0, Nat.zero_le _, rfl, rfl, bl_alloc (bl_alloc (bl_refl _) _) _, Hn1.out, Hn2.out⟩
          case round =>
            obtain ⟨k, hk, rfl, heq, hb, hx, hx'⟩ := hrel
            have HE := Lib.hid heq
            have q0 := blk_cell hx 0; have q1 := blk_cell hx 1; have q2 := blk_cell hx 2; simp only [List.getElem?_toArray, List.getElem?_cons_zero, List.getElem?_cons_succ] at q0 q1 q2
            have p0 := blk_cell hx' 0; have p1 := blk_cell hx' 1; have p2 := blk_cell hx' 2; simp only [List.getElem?_toArray, List.getElem?_cons_zero, List.getElem?_cons_succ] at p0 p1 p2
            have HX := Lib.hid hx
            have HX' := Lib.hid hx'
            have hgl := blk_lt hx
            have hgl' := blk_lt hx'
            clear heq hx hx'
            by_cases hlt : k < a.bs.length
            · have hlt' : k < b.bs.length := by omega
              obtain ⟨ad, rfl, e1⟩ := HQ.out k hlt
              obtain ⟨ad', rfl, e2⟩ := HQ'.out k hlt'
              have d1 := cell_move (hb.block _ (World.block_lt_of_cell? w _ e1)) e1
              have d2 := cell_move (hb.block _ (World.block_lt_of_cell? w _ e2)) e2
              have HB := Lib.hid hb
              clear e1 e2 hb
              by_cases hbb : a.bs[k] = b.bs[k]
              · have hb1 : (((a.bs[k].toNat : Nat) : Int) != ((b.bs[k].toNat : Nat) : Int)) = false := by simp [hbb]
                have HBB := Lib.hid hbb
                clear hbb
                go_wp2
                go_quiet (fail)
                go_wp2
                go_roundw
                case rel =>
                  refine ⟨k + 1, by omega, by go_num, ?_, bl_drewN HB.out _, HX.out, HX'.out⟩
                  rw [List.take_succ_eq_append_getElem hlt, List.take_succ_eq_append_getElem hlt', HE.out, HBB.out]
                case measure => simp [intOf]; omega
              · have hb1 : (((a.bs[k].toNat : Nat) : Int) != ((b.bs[k].toNat : Nat) : Int)) = true := by
                  rw [bne_iff_ne]; intro h; exact hbb (UInt8.toNat_inj.1 (by omega))
                have hf : eqT a b = false := eqT_no a b (by intro h; exact hbb (by simp only [h]))
                have HF := Lib.hid hf
                clear hbb hf
                go_wp2
                go_quiet (fail)
                go_wp2
                go_ret
                exact ⟨ret_bool HF.out.symm, bl_drewN HB.out _⟩
            · have hbs : a.bs = b.bs := by
                have h1 := HE.out
                have hke : k = a.bs.length := by omega
                rwa [hke, List.take_length, HLB.out, List.take_length] at h1
              have HR := Lib.hid (eqT_parts a b HT.out hbs)
              have HB := Lib.hid hb
              clear hbs hb
              go_wp2
              obtain ⟨wo, rfl⟩ : ∃ wo : World, wo = wr := ⟨_, rfl⟩
              clear q0 q1 q2 p0 p1 p2
              go_loopw [6] (fun i wr => ∃ k : Nat, k ≤ a.kids.length ∧ i = .int .i64 (k : Int) ∧ a.kids.take k = b.kids.take k ∧ Below w.heap.size w wr ∧ wr.heap[w.heap.size]? = some (.cells #[.int .u8 (a.tag.toNat : Int), .slice A1 a.bs.length c1, .slice A a.kids.length c] 33 (0, 0))
                ∧ wr.heap[w.heap.size + 1]? = some (.cells #[.int .u8 (b.tag.toNat : Int), .slice A1' b.bs.length c1', .slice A' b.kids.length c'] 33 (0, 0))) (fun i _ => a.kids.length - (intOf i).toNat)
              case atStart => exact ⟨0, Nat.zero_le _, rfl, rfl, HB.out, HX.out, HX'.out⟩
              case round =>
                obtain ⟨k, hk, rfl, heq, hb, hx, hx'⟩ := hrel
                have HE2 := Lib.hid heq
                have q0 := blk_cell hx 0; have q1 := blk_cell hx 1; have q2 := blk_cell hx 2; simp only [List.getElem?_toArray, List.getElem?_cons_zero, List.getElem?_cons_succ] at q0 q1 q2
                have p0 := blk_cell hx' 0; have p1 := blk_cell hx' 1; have p2 := blk_cell hx' 2; simp only [List.getElem?_toArray, List.getElem?_cons_zero, List.getElem?_cons_succ] at p0 p1 p2
                have HX2 := Lib.hid hx
                have HX2' := Lib.hid hx'
                have hgl := blk_lt hx
                have hgl' := blk_lt hx'
                clear heq hx hx'
                by_cases hlt : k < a.kids.length
                · have hlt' : k < b.kids.length := by omega
                  obtain ⟨ad, A1, c1, A2, c2, rfl, e0, e1, e2, l1, l2, r1, r2⟩ := HP.out k hlt
                  obtain ⟨ad', A1', c1', A2', c2', rfl, e0', e1', e2', l1', l2', r1', r2'⟩ := HP'.out k hlt'
                  have d0 := cell_move (hb.block _ (World.block_lt_of_cell? w _ e0)) e0
                  have d1 := cell_move (hb.block _ (World.block_lt_of_cell? w _ e1)) e1
                  have d2 := cell_move (hb.block _ (World.block_lt_of_cell? w _ e2)) e2
                  have d0' := cell_move (hb.block _ (World.block_lt_of_cell? w _ e0')) e0'
                  have d1' := cell_move (hb.block _ (World.block_lt_of_cell? w _ e1')) e1'
                  have d2' := cell_move (hb.block _ (World.block_lt_of_cell? w _ e2')) e2'
                  have hkd : (a.kids[k]).depth ≤ m := Nat.le_trans (Tre.depth_le a.kids _ (List.getElem_mem hlt)) HD.out
                  have HB2 := Lib.hid hb
                  have V1 := Lib.hid (show TreV S w _ (a.kids[k]) from ⟨A1, c1, A2, c2, rfl, l1, l2, r1, r2⟩)
                  have V2 := Lib.hid (show TreV S' w _ (b.kids[k]) from ⟨A1', c1', A2', c2', rfl, l1', l2', r1', r2'⟩)
                  clear e0 e1 e2 e0' e1' e2' r1 r2 r1' r2' hb
                  go_wp2
                  go_still_tail 10, (by kernel_rfl)
                  change wpList _ _ _ _ _ wr.drew
                  by_cases ht : a.kids[k] = b.kids[k]
                  · have hr := (eqT_iff _ _).2 ht
                    have HTT := Lib.hid ht
                    clear ht
                    go_wp2_with (go_at_call 17; go_must (refine (ih (a.kids[k]) (b.kids[k]) S S' _ _ _ hkd (V1.out.old (bl_drew HB2.out)) (V2.out.old (bl_drew HB2.out))).mono ?_; rw [hr]; rintro e w1 ⟨rfl, hb1⟩; have HB1 := Lib.hid hb1; clear hb1))
                    go_roundw
                    case rel =>
                      refine ⟨k + 1, by omega, by go_num, ?_, bl_then (bl_drew HB2.out) HB1.out, (HB1.out.block _ hgl).trans HX2.out, (HB1.out.block _ hgl').trans HX2'.out⟩
                      rw [List.take_succ_eq_append_getElem hlt, List.take_succ_eq_append_getElem hlt', HE2.out, HTT.out]
                    case measure => simp [intOf]; omega
                  · have hr := eqT_no _ _ ht
                    have hf : eqL a.kids b.kids = false := eqL_no _ _ (by intro h; exact ht (by simp only [h]))
                    have HF := Lib.hid (HR.out.trans hf)
                    clear ht hf
                    go_wp2_with (go_at_call 17; go_must (refine (ih (a.kids[k]) (b.kids[k]) S S' _ _ _ hkd (V1.out.old (bl_drew HB2.out)) (V2.out.old (bl_drew HB2.out))).mono ?_; rw [hr]; rintro e w1 ⟨rfl, hb1⟩; have HB1 := Lib.hid hb1; clear hb1))
                    go_ret
                    exact ⟨ret_bool HF.out.symm, bl_then (bl_drew HB2.out) HB1.out⟩
                · have hf : eqL a.kids b.kids = true := by
                    rw [eqL_iff]
                    have h1 := HE2.out
                    have hke : k = a.kids.length := by omega
                    rwa [hke, List.take_length, HL.out, List.take_length] at h1
                  have HF := Lib.hid (HR.out.trans hf)
                  have HB2 := Lib.hid hb
                  clear hf hb
                  go_wp2
                  go_ret
                  exact ⟨ret_bool HF.out.symm, HB2.out⟩
        · have hl1 : ((a.kids.length : Int) != (b.kids.length : Int)) = true := by rw [bne_iff_ne]; omega
          have hl2 : (a.kids.length != b.kids.length) = true := by rw [bne_iff_ne]; exact hl
          have HF := Lib.hid (eqT_no a b (by intro h; rw [h] at hl; exact hl rfl))
          clear hl ht hlb
          go_enter Tryd.func17, Tryd.ntmps17
          go_wp2
          go_ret
          exact ⟨ret_bool HF.out.symm, bl_alloc (bl_alloc (bl_refl _) _) _⟩
      · have hlb1 : ((a.bs.length : Int) != (b.bs.length : Int)) = true := by rw [bne_iff_ne]; omega
        have hlb2 : (a.bs.length != b.bs.length) = true := by rw [bne_iff_ne]; exact hlb
        have HF := Lib.hid (eqT_no a b (by intro h; rw [h] at hlb; exact hlb rfl))
        clear hlb ht
        go_enter Tryd.func17, Tryd.ntmps17
        go_wp2
        go_ret
        exact ⟨ret_bool HF.out.symm, bl_alloc (bl_alloc (bl_refl _) _) _⟩
    · have ht1 : (((a.tag.toNat : Nat) : Int) != ((b.tag.toNat : Nat) : Int)) = true := by
        rw [bne_iff_ne]; intro h; exact ht (UInt8.toNat_inj.1 (by omega))
      have HF := Lib.hid (eqT_no a b (by intro h; exact ht (by rw [h])))
      clear ht
      go_enter Tryd.func17, Tryd.ntmps17
      go_wp2
      go_ret
      exact ⟨ret_bool HF.out.symm, bl_alloc (bl_alloc (bl_refl _) _) _⟩
end Go.Proofs.YtfgeldeaahdddaaDoor
