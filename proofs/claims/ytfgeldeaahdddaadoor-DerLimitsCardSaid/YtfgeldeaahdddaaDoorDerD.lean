/- Trees compared: der's method that is handed on as a function, EqualFunc over it. -/
import Derived.Test.YtfgeldeaahdddaaDoorSmall
import Derived.Test.YtfgeldeaahdddaaDoorDerSpec
set_option linter.unusedVariables false
set_option linter.unusedSimpArgs false
namespace Go.Proofs.YtfgeldeaahdddaaDoor
open Go.RowKit Lx

noncomputable def eqT (a b : Tre) : Bool := @decide (a = b) (Classical.propDecidable _)
noncomputable def eqL (a b : List Tre) : Bool := @decide (a = b) (Classical.propDecidable _)
theorem eqT_iff (a b : Tre) : eqT a b = true ↔ a = b := by unfold eqT; exact @decide_eq_true_iff _ (Classical.propDecidable _)
theorem eqL_iff (a b : List Tre) : eqL a b = true ↔ a = b := by unfold eqL; exact @decide_eq_true_iff _ (Classical.propDecidable _)
theorem eqT_no (a b : Tre) (h : ¬ a = b) : eqT a b = false := by
  cases h' : eqT a b
  · rfl
  · exact absurd ((eqT_iff a b).1 h') h
theorem eqL_no (a b : List Tre) (h : ¬ a = b) : eqL a b = false := by
  cases h' : eqL a b
  · rfl
  · exact absurd ((eqL_iff a b).1 h') h
theorem eqT_parts (a b : Tre) (h1 : a.tag = b.tag) (h2 : a.bs = b.bs) : eqT a b = eqL a.kids b.kids := by
  rw [Bool.eq_iff_iff, eqT_iff, eqL_iff]
  exact ⟨fun h => by rw [h], fun h => Tre.ext_ a b h1 h2 h⟩

def SameSaid (m : Nat) : Prop := ∀ (a b : Tre) (S S' : Nat → Prop) (v v' : Value) (w : World), a.depth ≤ m → TreV S w v a → TreV S' w v' b →
    Calls Tryd.prog 31 #[v, v'] w fun e w' => e = .returned (.bool (eqT a b)) ∧ Below w.heap.size w w'

set_option maxHeartbeats 400000 in
theorem EqualFunc_any (m : Nat) (ih : SameSaid m) (ks ks' : List Tre) (S S' : Nat → Prop) (A A' : Option Addr) (c c' : Nat) (w : World) (hd : Tre.depthL ks ≤ m) (hK : Rep S w (.slice A ks.length c) (.sl 3 (Tre.cellsL ks))) (hK' : Rep S' w (.slice A' ks'.length c') (.sl 3 (Tre.cellsL ks'))) :
    Calls Tryd.prog 44 #[.slice A ks.length c, .slice A' ks'.length c', .func (.func 31) #[] #[]] w
      fun e w' => e = .returned (.bool (eqL ks ks')) ∧ Below w.heap.size w w' := by
  obtain ⟨_, _, he, hlc, hlm, hat⟩ := kids_parts hK
  cases he
  obtain ⟨_, _, he, hlc', hlm', hat'⟩ := kids_parts hK'
  cases he
  have HP := Lib.hid hat
  have HP' := Lib.hid hat'
  have HD := Lib.hid hd
  clear hat hat' hK hK' hd
  by_cases hl : ks.length = ks'.length
  · have hl1 : ((ks.length : Int) != (ks'.length : Int)) = false := by simp [hl]
    have hl2 : (ks.length != ks'.length) = false := by simp [hl]
    have HL := Lib.hid hl
    have hle : ks.length ≤ ks'.length := by omega
    clear hl
    go_enter Tryd.func44, Tryd.ntmps44
    go_wp2
    go_loopw [17] (fun i wr => ∃ k : Nat, k ≤ ks.length ∧ i = .int .i64 (k : Int) ∧ ks.take k = ks'.take k ∧ Below w.heap.size w wr) (fun i _ => ks.length - (intOf i).toNat)
    case atStart => exact ⟨0, Nat.zero_le _, rfl, rfl, Below.refl _ _⟩
    case round =>
      obtain ⟨k, hk, rfl, heq, hb⟩ := hrel
      have HE := Lib.hid heq
      clear heq
      by_cases hlt : k < ks.length
      · have hlt' : k < ks'.length := by omega
        obtain ⟨ad, A1, c1, A2, c2, rfl, e0, e1, e2, l1, l2, r1, r2⟩ := HP.out k hlt
        obtain ⟨ad', A1', c1', A2', c2', rfl, e0', e1', e2', l1', l2', r1', r2'⟩ := HP'.out k hlt'
        have d0 := cell_move (hb.block _ (World.block_lt_of_cell? w _ e0)) e0
        have d1 := cell_move (hb.block _ (World.block_lt_of_cell? w _ e1)) e1
        have d2 := cell_move (hb.block _ (World.block_lt_of_cell? w _ e2)) e2
        have d0' := cell_move (hb.block _ (World.block_lt_of_cell? w _ e0')) e0'
        have d1' := cell_move (hb.block _ (World.block_lt_of_cell? w _ e1')) e1'
        have d2' := cell_move (hb.block _ (World.block_lt_of_cell? w _ e2')) e2'
        have hkd : (ks[k]).depth ≤ m := Nat.le_trans (Tre.depth_le ks _ (List.getElem_mem hlt)) HD.out
        have q0 := World.block_lt_of_cell? wr _ d0'
        have q1 := World.block_lt_of_cell? wr _ d1'
        have q2 := World.block_lt_of_cell? wr _ d2'
        have HB := Lib.hid hb
        have V1 := Lib.hid (show TreV S w _ (ks[k]) from ⟨A1, c1, A2, c2, rfl, l1, l2, r1, r2⟩)
        have V2 := Lib.hid (show TreV S' w _ (ks'[k]) from ⟨A1', c1', A2', c2', rfl, l1', l2', r1', r2'⟩)
        clear e0 e1 e2 e0' e1' e2' r1 r2 r1' r2' hb
        by_cases ht : ks[k] = ks'[k]
        · have hr := (eqT_iff _ _).2 ht
          have HT := Lib.hid ht
          clear ht
          go_wp2_with (go_at_call 31; go_must (refine (ih (ks[k]) (ks'[k]) S S' _ _ _ hkd (V1.out.old (by repeat (first | exact HB.out | apply bl_alloc))) (V2.out.old (by repeat (first | exact HB.out | apply bl_alloc)))).mono ?_; rw [hr]; rintro e w1 ⟨rfl, hb1⟩; have HB1 := Lib.hid hb1; clear hb1))
          go_roundw
          case rel =>
            refine ⟨k + 1, by omega, by go_num, ?_, bl_then (bl_alloc (bl_alloc HB.out _) _) HB1.out⟩
            rw [List.take_succ_eq_append_getElem hlt, List.take_succ_eq_append_getElem hlt', HE.out, HT.out]
          case measure => simp [intOf]; omega
        · have hr := eqT_no _ _ ht
          have hf : eqL ks ks' = false := eqL_no _ _ (by intro h; subst h; exact ht rfl)
          have HF := Lib.hid hf
          clear ht hf
          go_wp2_with (go_at_call 31; go_must (refine (ih (ks[k]) (ks'[k]) S S' _ _ _ hkd (V1.out.old (by repeat (first | exact HB.out | apply bl_alloc))) (V2.out.old (by repeat (first | exact HB.out | apply bl_alloc)))).mono ?_; rw [hr]; rintro e w1 ⟨rfl, hb1⟩; have HB1 := Lib.hid hb1; clear hb1))
          go_ret
          exact ⟨ret_bool HF.out.symm, bl_then (bl_alloc (bl_alloc HB.out _) _) HB1.out⟩
      · have hf : eqL ks ks' = true := by
          rw [eqL_iff]
          have h1 := HE.out
          have hke : k = ks.length := by omega
          rwa [hke, List.take_length, HL.out, List.take_length] at h1
        have HF := Lib.hid hf
        have HB := Lib.hid hb
        clear hf hb
        go_wp2
        go_ret
        exact ⟨ret_bool HF.out.symm, HB.out⟩
  · have hl1 : ((ks.length : Int) != (ks'.length : Int)) = true := by rw [bne_iff_ne]; omega
    have hl2 : (ks.length != ks'.length) = true := by rw [bne_iff_ne]; exact hl
    have hf : eqL ks ks' = false := eqL_no _ _ (by intro h; subst h; exact hl rfl)
    have HF := Lib.hid hf
    clear hl hf
    go_enter Tryd.func44, Tryd.ntmps44
    go_wp2
    go_ret
    exact ⟨ret_bool HF.out.symm, Below.refl _ _⟩
set_option maxHeartbeats 400000 in
theorem derSame_calls (m : Nat) : SameSaid m := by
  induction m with
  | zero => intro a b S S' v v' w h; have := Tre.depth_eq a; omega
  | succ m ih =>
    intro a b S S' v v' w hd hv hv'
    obtain ⟨A1, c1, A, c, rfl, hc1, hc, hB, hK⟩ := hv
    obtain ⟨A1', c1', A', c', rfl, hc1', hc', hB', hK'⟩ := hv'
    have hdl : Tre.depthL a.kids ≤ m := by have := Tre.depth_eq a; omega
    have R1 := Lib.hid hB
    have R2 := Lib.hid hK
    have R1' := Lib.hid hB'
    have R2' := Lib.hid hK'
    clear hB hK hB' hK' hd
    by_cases ht : a.tag = b.tag
    · have ht1 : (((a.tag.toNat : Nat) : Int) == ((b.tag.toNat : Nat) : Int)) = true := by simp [ht]
      by_cases hbs : a.bs = b.bs
      · have hb1 : decide (a.bs = b.bs) = true := by simp [hbs]
        have HR := Lib.hid (eqT_parts a b ht hbs)
        clear ht hbs
        go_enter Tryd.func31, Tryd.ntmps31
        go_wp2_with (first | (go_at_call 43; go_must (refine (Equal_any S S' _ _ a.bs b.bs _ (R1.out.old (by repeat (first | exact bl_refl _ | apply bl_alloc))) (R1'.out.old (by repeat (first | exact bl_refl _ | apply bl_alloc)))).mono ?_; rw [hb1]; rintro e w1 ⟨rfl, rfl⟩)) | (go_at_call 44; go_must (refine (EqualFunc_any m ih a.kids b.kids S S' _ _ _ _ _ hdl (R2.out.old (by repeat (first | exact bl_refl _ | apply bl_alloc))) (R2'.out.old (by repeat (first | exact bl_refl _ | apply bl_alloc)))).mono ?_; rintro e w1 ⟨rfl, hb1⟩; have HB1 := Lib.hid hb1; clear hb1)))
        go_ret
        exact ⟨ret_bool HR.out.symm, bl_then (bl_alloc (bl_alloc (bl_refl _) _) _) HB1.out⟩
      · have hb1 : decide (a.bs = b.bs) = false := by simp [hbs]
        have HR := Lib.hid (eqT_no a b (by intro h; exact hbs (by rw [h])))
        clear ht hbs
        go_enter Tryd.func31, Tryd.ntmps31
        go_wp2_with (go_at_call 43; go_must (refine (Equal_any S S' _ _ a.bs b.bs _ (R1.out.old (by repeat (first | exact bl_refl _ | apply bl_alloc))) (R1'.out.old (by repeat (first | exact bl_refl _ | apply bl_alloc)))).mono ?_; rw [hb1]; rintro e w1 ⟨rfl, rfl⟩))
        go_ret
        exact ⟨ret_bool HR.out.symm, bl_alloc (bl_alloc (bl_refl _) _) _⟩
    · have ht1 : (((a.tag.toNat : Nat) : Int) == ((b.tag.toNat : Nat) : Int)) = false := by
        rw [beq_eq_false_iff_ne]; intro h; exact ht (UInt8.toNat_inj.1 (by omega))
      have HR := Lib.hid (eqT_no a b (by intro h; exact ht (by rw [h])))
      clear ht
      go_enter Tryd.func31, Tryd.ntmps31
      go_wp2
      go_ret
      exact ⟨ret_bool HR.out.symm, bl_alloc (bl_alloc (bl_refl _) _) _⟩
set_option maxHeartbeats 400000 in
/-- der.Same -/
theorem derSame_any (a b : Tre) (S S' : Nat → Prop) (v v' : Value) (w : World) (hv : TreV S w v a) (hv' : TreV S' w v' b) :
    Calls Tryd.prog 15 #[v, v'] w fun e w' => e = .returned (.bool (eqT a b)) ∧ Below w.heap.size w w' := by
  have V1 := Lib.hid hv
  have V2 := Lib.hid hv'
  obtain ⟨A1, c1, A, c, rfl, _⟩ := hv
  obtain ⟨A1', c1', A', c', rfl, _⟩ := hv'
  go_enter Tryd.func15, Tryd.ntmps15
  go_wp2_with (go_at_call 31; go_must (refine (derSame_calls a.depth a b S S' _ _ _ (Nat.le_refl _) (V1.out.old (by repeat (first | exact bl_refl _ | apply bl_alloc))) (V2.out.old (by repeat (first | exact bl_refl _ | apply bl_alloc)))).mono ?_; rintro e w1 ⟨rfl, hb1⟩; have HB1 := Lib.hid hb1; clear hb1))
  go_ret
  exact ⟨rfl, bl_then (bl_alloc (bl_alloc (bl_refl _) _) _) HB1.out⟩
end Go.Proofs.YtfgeldeaahdddaaDoor
