/- der.size, der.shaped (with slices.ContainsFunc, slices.IndexFunc over its closure), der.Valid. -/
import Derived.Test.YtfgeldeaahdddaaDoorDerC
import Derived.Test.YtfgeldeaahdddaaDoorDerA
import Derived.Test.YtfgeldeaahdddaaDoorDerB
import Derived.Test.YtfgeldeaahdddaaDoorWidth
set_option linter.unusedVariables false
set_option linter.unusedSimpArgs false
namespace Go.Proofs.YtfgeldeaahdddaaDoor
open Go.RowKit Lx

theorem text_len (n : Tre) : n.text.length = (n.bs.length + (Tre.textL n.kids).length) + 1 + (lenEnc (n.bs.length + (Tre.textL n.kids).length)).length := by
  rw [Tre.text_eq]; simp; omega
theorem lenEnc_len (l : Nat) : (lenEnc l).length = if l < 128 then 1 else 1 + (num l).length := by
  unfold lenEnc
  split
  · rfl
  · simp; omega
set_option maxRecDepth 100000 in
set_option maxHeartbeats 1000000 in
theorem size_calls (m : Nat) : ∀ (n : Tre) (S : Nat → Prop) (v : Value) (w : World), n.depth ≤ m → n.text.length ≤ 1000000000000 → TreV S w v n →
    Calls Tryd.prog 34 #[v] w fun e w' => e = .returned (.int .i64 (n.text.length : Int)) ∧ Below w.heap.size w w' := by
  induction m with
  | zero => intro n S v w h; have := Tre.depth_eq n; omega
  | succ m ih =>
    intro n S v w hd hm hv
    obtain ⟨A1, c1, A, c, rfl, hc1, hc, hB, hK⟩ := hv
    obtain ⟨A', c', he, _, hlm, hat⟩ := kids_parts hK
    cases he
    obtain ⟨_, _, _, _, hlb, _⟩ := byts_parts hB
    have HAT := Lib.hid hat
    have HE := Lib.hid (text_len n)
    have HD := Lib.hid hd
    have hle : n.bs.length + (Tre.textL n.kids).length ≤ 1000000000000 := by have := HE.out; omega
    clear hK hat hB hd
    go_enter Tryd.func34, Tryd.ntmps34
    go_wp2
    go_loopw [3, 12] (fun a i wr => ∃ k : Nat, k ≤ n.kids.length ∧ i = .int .i64 k ∧ a = .int .i64 ((n.bs.length + (Tre.textL (n.kids.take k)).length : Nat) : Int) ∧ Below w.heap.size w wr) (fun _ i _ => n.kids.length - (intOf i).toNat)
    case atStart => exact ⟨0, by omega, rfl, rfl, (Below.refl _ _).alloc (Nat.le_refl _) _⟩
    case round =>
      obtain ⟨k, hk, rfl, rfl, hb⟩ := hrel
      by_cases hlt : k < n.kids.length
      · obtain ⟨ad, A1', c1', A2', c2', rfl, e0, e1, e2, l1, l2, r1, r2⟩ := HAT.out k hlt
        have d0 := cell_move (hb.block _ (World.block_lt_of_cell? w _ e0)) e0
        have d1 := cell_move (hb.block _ (World.block_lt_of_cell? w _ e1)) e1
        have d2 := cell_move (hb.block _ (World.block_lt_of_cell? w _ e2)) e2
        have hkd : (n.kids[k]).depth ≤ m := by have := Tre.depth_kid n k hlt; have := HD.out; omega
        obtain ⟨s1, s2⟩ := Tre.textL_step n.kids k hlt
        have s3 : (Tre.textL (n.kids.take (k + 1))).length = (Tre.textL (n.kids.take k)).length + (n.kids[k]).text.length := by rw [s1, List.length_append]
        have hkc : (n.kids[k]).text.length ≤ 1000000000000 := by omega
        have hbd : n.bs.length + (Tre.textL (n.kids.take k)).length + (n.kids[k]).text.length ≤ 2000000000000 := by omega
        have S1 := Lib.hid s3
        have HB := Lib.hid hb
        have R1 := Lib.hid r1
        have R2 := Lib.hid r2
        clear e0 e1 e2 r1 r2 s1 s2 s3 hb
        go_wp2_with (go_at_call 34; go_must (refine (ih (n.kids[k]) S _ _ hkd hkc ⟨A1', c1', A2', c2', rfl, l1, l2, R1.out.old (by repeat (first | exact HB.out | apply bl_alloc)), R2.out.old (by repeat (first | exact HB.out | apply bl_alloc))⟩).mono ?_; rintro e w1 ⟨rfl, hb1⟩; have HB1 := Lib.hid hb1; clear hb1))
        go_roundw
        case rel => exact ⟨k + 1, by omega, by go_num, int_eq (by have := S1.out; omega), bl_then (bl_alloc HB.out _) HB1.out⟩
        case measure => simp [intOf]; omega
      · have HB := Lib.hid hb
        have hke : k = n.kids.length := by omega
        have hx : n.bs.length + (Tre.textL (n.kids.take k)).length = n.bs.length + (Tre.textL n.kids).length := by rw [hke, List.take_length]
        clear hke hb
        generalize hs : n.bs.length + (Tre.textL (n.kids.take k)).length = s at hx ⊢
        have HX := Lib.hid hx
        have hsl : s ≤ 1000000000000 := by omega
        have HL := Lib.hid (lenEnc_len s)
        clear hx hs
        by_cases h128 : s < 128
        · go_wp2
          go_ret
          refine ⟨ret_int ?_, HB.out⟩
          have h1 := HE.out
          have h2 := HL.out
          rw [← HX.out, h2, if_pos h128] at h1
          omega
        · have hnl : (num s).length ≤ 64 := by rw [← num_width s (by omega)]; have := bitLen_le s (by omega); omega
          go_wp2_with (go_at_call 42; go_must (refine (width_any s _ (by omega)).mono ?_; rintro e w1 ⟨rfl, rfl⟩))
          go_ret
          refine ⟨ret_int ?_, HB.out⟩
          have h1 := HE.out
          have h2 := HL.out
          rw [← HX.out, h2, if_neg h128] at h1
          omega

def ShapedSaid (m : Nat) : Prop := ∀ (n : Tre) (S : Nat → Prop) (v : Value) (w : World), n.depth ≤ m → TreV S w v n →
    Calls Tryd.prog 33 #[v] w fun e w' => e = .returned (.bool n.shaped) ∧ Below w.heap.size w w'
set_option maxHeartbeats 400000 in
theorem closure_any (m : Nat) (ih : ShapedSaid m) (n : Tre) (S : Nat → Prop) (v : Value) (w : World) (hd : n.depth ≤ m) (hv : TreV S w v n) :
    Calls Tryd.prog 47 #[v] w fun e w' => e = .returned (.bool (!n.shaped)) ∧ Below w.heap.size w w' := by
  have V1 := Lib.hid hv
  obtain ⟨A1, c1, A, c, rfl, _⟩ := hv
  go_enter Tryd.func47, Tryd.ntmps47
  go_wp2_with (go_at_call 33; go_must (refine (ih n S _ _ hd (V1.out.old (by repeat (first | exact bl_refl _ | apply bl_alloc)))).mono ?_; rintro e w1 ⟨rfl, hb1⟩; have HB1 := Lib.hid hb1; clear hb1))
  go_ret
  exact ⟨rfl, bl_then (bl_alloc (bl_refl _) _) HB1.out⟩
theorem shapedL_step (l : List Tre) (k : Nat) (h : k < l.length) (ht : Tre.shapedL (l.take k) = true) : Tre.shapedL (l.take (k + 1)) = (l[k]).shaped ∧ ((l[k]).shaped = false → Tre.shapedL l = false) := by
  have h1 : Tre.shapedL (l.take (k + 1)) = (l[k]).shaped := by rw [Tre.take_snoc l k h, Tre.shapedL_append, ht]; simp [Tre.shapedL]
  refine ⟨h1, fun h2 => ?_⟩
  have := Tre.shapedL_append (l.take (k + 1)) (l.drop (k + 1))
  rw [List.take_append_drop] at this
  rw [this, h1, h2]; rfl
set_option maxHeartbeats 400000 in
theorem IndexFunc_any (m : Nat) (ih : ShapedSaid m) (ks : List Tre) (S : Nat → Prop) (A : Option Addr) (c : Nat) (w : World) (hd : Tre.depthL ks ≤ m) (hK : Rep S w (.slice A ks.length c) (.sl 3 (Tre.cellsL ks))) :
    Calls Tryd.prog 53 #[.slice A ks.length c, .func (.func 47) #[] #[]] w
      fun e w' => (∃ i : Int, e = .returned (.int .i64 i) ∧ decide (0 ≤ i) = !(Tre.shapedL ks)) ∧ Below w.heap.size w w' := by
  obtain ⟨_, _, he, hlc, hlm, hat⟩ := kids_parts hK
  cases he
  have HP := Lib.hid hat
  have HD := Lib.hid hd
  clear hat hK hd
  go_enter Tryd.func53, Tryd.ntmps53
  go_wp2
  go_loopw [8] (fun i wr => ∃ k : Nat, k ≤ ks.length ∧ i = .int .i64 (k : Int) ∧ Tre.shapedL (ks.take k) = true ∧ Below w.heap.size w wr) (fun i _ => ks.length - (intOf i).toNat)
  case atStart => exact ⟨0, Nat.zero_le _, rfl, rfl, Below.refl _ _⟩
  case round =>
    obtain ⟨k, hk, rfl, heq, hb⟩ := hrel
    have HE := Lib.hid heq
    clear heq
    by_cases hlt : k < ks.length
    · obtain ⟨ad, A1, c1, A2, c2, rfl, e0, e1, e2, l1, l2, r1, r2⟩ := HP.out k hlt
      have d0 := cell_move (hb.block _ (World.block_lt_of_cell? w _ e0)) e0
      have d1 := cell_move (hb.block _ (World.block_lt_of_cell? w _ e1)) e1
      have d2 := cell_move (hb.block _ (World.block_lt_of_cell? w _ e2)) e2
      have hkd : (ks[k]).depth ≤ m := Nat.le_trans (Tre.depth_le ks _ (List.getElem_mem hlt)) HD.out
      have HB := Lib.hid hb
      have V1 := Lib.hid (show TreV S w _ (ks[k]) from ⟨A1, c1, A2, c2, rfl, l1, l2, r1, r2⟩)
      have HS := Lib.hid (shapedL_step ks k hlt HE.out)
      clear e0 e1 e2 r1 r2 hb
      cases hsh : (ks[k]).shaped
      · have HSH := Lib.hid hsh
        go_wp2_with (go_at_call 47; go_must (refine (closure_any m ih (ks[k]) S _ _ hkd (V1.out.old HB.out)).mono ?_; rw [hsh]; rintro e w1 ⟨rfl, hb1⟩; have HB1 := Lib.hid hb1; clear hb1))
        go_ret
        exact ⟨⟨_, rfl, by rw [HS.out.2 HSH.out]; simp⟩, bl_then HB.out HB1.out⟩
      · have HSH := Lib.hid hsh
        go_wp2_with (go_at_call 47; go_must (refine (closure_any m ih (ks[k]) S _ _ hkd (V1.out.old HB.out)).mono ?_; rw [hsh]; rintro e w1 ⟨rfl, hb1⟩; have HB1 := Lib.hid hb1; clear hb1))
        go_roundw
        case rel => exact ⟨k + 1, by omega, by go_num, HS.out.1.trans HSH.out, bl_then HB.out HB1.out⟩
        case measure => simp [intOf]; omega
    · have hke : k = ks.length := by omega
      have hs : Tre.shapedL ks = true := by have h1 := HE.out; rwa [hke, List.take_length] at h1
      have HS := Lib.hid hs
      have HB := Lib.hid hb
      clear hke hs hb
      go_wp2
      go_ret
      exact ⟨⟨_, rfl, by rw [HS.out]; simp⟩, HB.out⟩
set_option maxHeartbeats 400000 in
theorem ContainsFunc_any (m : Nat) (ih : ShapedSaid m) (ks : List Tre) (S : Nat → Prop) (A : Option Addr) (c : Nat) (w : World) (hd : Tre.depthL ks ≤ m) (hK : Rep S w (.slice A ks.length c) (.sl 3 (Tre.cellsL ks))) :
    Calls Tryd.prog 46 #[.slice A ks.length c, .func (.func 47) #[] #[]] w
      fun e w' => e = .returned (.bool (!(Tre.shapedL ks))) ∧ Below w.heap.size w w' := by
  have HK := Lib.hid hK
  clear hK
  go_enter Tryd.func46, Tryd.ntmps46
  go_wp2_with (go_at_call 53; go_must (refine (IndexFunc_any m ih ks S A c _ hd HK.out).mono ?_; rintro e w1 ⟨⟨i, rfl, hi⟩, hb1⟩; have HB1 := Lib.hid hb1; have HI := Lib.hid hi; clear hb1 hi))
  go_ret
  exact ⟨ret_bool HI.out, HB1.out⟩
set_option maxHeartbeats 800000 in
theorem shaped_calls (m : Nat) : ShapedSaid m := by
  induction m with
  | zero => intro n S v w h; have := Tre.depth_eq n; omega
  | succ m ih =>
    intro n S v w hd hv
    obtain ⟨A1, c1, A, c, rfl, hc1, hc, hB, hK⟩ := hv
    obtain ⟨_, _, _, _, hlb, _⟩ := byts_parts hB
    obtain ⟨_, _, _, _, hlk⟩ := kids_slice hK
    have hdl : Tre.depthL n.kids ≤ m := by have := Tre.depth_eq n; omega
    have HK := Lib.hid hK
    have HS := Lib.hid (Tre.shaped_eq n)
    clear hB hK hd
    have hz1 : n.bs.isEmpty = decide (n.bs.length = 0) := by cases n.bs <;> simp
    have hz2 : n.kids.isEmpty = decide (n.kids.length = 0) := by cases n.kids <;> simp
    have HZ1 := Lib.hid hz1
    have HZ2 := Lib.hid hz2
    clear hz1 hz2
    cases h1 : tagOk n.tag
    · have HS' := Lib.hid (show n.shaped = false by rw [HS.out, h1]; rfl)
      go_enter Tryd.func33, Tryd.ntmps33
      go_wp2_with (go_at_call 36; go_must (refine (right_any n.tag _).mono ?_; rw [h1]; rintro e w1 ⟨rfl, rfl⟩))
      go_ret
      exact ⟨ret_bool HS'.out.symm, bl_alloc (bl_refl _) _⟩
    · cases h2 : comp n.tag
      · by_cases h3 : n.kids.length = 0
        · have HS' := Lib.hid (show n.shaped = Tre.shapedL n.kids by rw [HS.out, h1, h2, if_neg (by simp), HZ2.out]; simp [h3])
          have h3' : ¬ 0 < n.kids.length := by omega
          have h3b : decide (0 < n.kids.length) = false := by simp [h3]
          have H3 := Lib.hid h3
          clear h3
          go_enter Tryd.func33, Tryd.ntmps33
          go_wp2_with (first | (go_at_call 36; go_must (refine (right_any n.tag _).mono ?_; rw [h1]; rintro e w1 ⟨rfl, rfl⟩)) | (go_at_call 38; go_must (refine (composed_any n.tag _).mono ?_; rw [h2]; rintro e w1 ⟨rfl, rfl⟩)) | (go_at_call 46; go_must (refine (ContainsFunc_any m ih n.kids S _ _ _ hdl (HK.out.old (by repeat (first | exact bl_refl _ | apply bl_alloc)))).mono ?_; rintro e w1 ⟨rfl, hb1⟩; have HB1 := Lib.hid hb1; clear hb1)))
          go_ret
          exact ⟨ret_bool (by rw [HS'.out]), bl_then (bl_alloc (bl_refl _) _) HB1.out⟩
        · have HS' := Lib.hid (show n.shaped = false by rw [HS.out, h1, h2, if_neg (by simp), HZ2.out]; simp [h3])
          have h3b : decide (0 < n.kids.length) = true := by simp; omega
          have h3' : 0 < n.kids.length := by omega
          clear h3
          go_enter Tryd.func33, Tryd.ntmps33
          go_wp2_with (first | (go_at_call 36; go_must (refine (right_any n.tag _).mono ?_; rw [h1]; rintro e w1 ⟨rfl, rfl⟩)) | (go_at_call 38; go_must (refine (composed_any n.tag _).mono ?_; rw [h2]; rintro e w1 ⟨rfl, rfl⟩)))
          go_ret
          exact ⟨ret_bool HS'.out.symm, bl_alloc (bl_refl _) _⟩
      · by_cases h3 : n.bs.length = 0
        · have HS' := Lib.hid (show n.shaped = Tre.shapedL n.kids by rw [HS.out, h1, h2, if_pos rfl, HZ1.out]; simp [h3])
          have h3' : ¬ 0 < n.bs.length := by omega
          have h3b : decide (0 < n.bs.length) = false := by simp [h3]
          clear h3
          go_enter Tryd.func33, Tryd.ntmps33
          go_wp2_with (first | (go_at_call 36; go_must (refine (right_any n.tag _).mono ?_; rw [h1]; rintro e w1 ⟨rfl, rfl⟩)) | (go_at_call 38; go_must (refine (composed_any n.tag _).mono ?_; rw [h2]; rintro e w1 ⟨rfl, rfl⟩)) | (go_at_call 46; go_must (refine (ContainsFunc_any m ih n.kids S _ _ _ hdl (HK.out.old (by repeat (first | exact bl_refl _ | apply bl_alloc)))).mono ?_; rintro e w1 ⟨rfl, hb1⟩; have HB1 := Lib.hid hb1; clear hb1)))
          go_ret
          exact ⟨ret_bool (by rw [HS'.out]), bl_then (bl_alloc (bl_refl _) _) HB1.out⟩
        · have HS' := Lib.hid (show n.shaped = false by rw [HS.out, h1, h2, if_pos rfl, HZ1.out]; simp [h3])
          have h3b : decide (0 < n.bs.length) = true := by simp; omega
          have h3' : 0 < n.bs.length := by omega
          clear h3
          go_enter Tryd.func33, Tryd.ntmps33
          go_wp2_with (first | (go_at_call 36; go_must (refine (right_any n.tag _).mono ?_; rw [h1]; rintro e w1 ⟨rfl, rfl⟩)) | (go_at_call 38; go_must (refine (composed_any n.tag _).mono ?_; rw [h2]; rintro e w1 ⟨rfl, rfl⟩)))
          go_ret
          exact ⟨ret_bool HS'.out.symm, bl_alloc (bl_refl _) _⟩
end Go.Proofs.YtfgeldeaahdddaaDoor
