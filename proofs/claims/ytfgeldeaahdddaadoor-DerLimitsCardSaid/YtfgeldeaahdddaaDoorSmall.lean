/- Small functions of the library and of layer 1's reference: slices.Clone at bytes, bytes.Equal, pyxref01.Same. -/
import Derived.Test.YtfgeldeaahdddaaDoorProg
import Derived.Test.YtfgeldeaahdddaaDoorLx
import Derived.KernelRfl
set_option linter.unusedVariables false
set_option linter.unusedSimpArgs false
namespace Go.Proofs.YtfgeldeaahdddaaDoor
open Go.RowKit Lx

theorem info5 : (Tryd.prog.info? 5).map (fun i => (i.zero, i.size, i.bytes)) = some (some (.int .u8 0), 1, 1) := by kernel_rfl
set_option maxHeartbeats 400000 in
theorem Clone_any (S : Nat → Prop) (A : Option Addr) (c : Nat) (xs : List UInt8) (w : World) (hr : Rep S w (.slice A xs.length c) (byts xs)) (hx : xs.length ≤ 1099511627776) :
    Calls Tryd.prog 39 #[.slice A xs.length c] w fun e w' => ∃ v, e = .returned v ∧ Own (fun _ => False) w' w.heap.size 5 v 1 (xs.map byteCell) ∧ Below w.heap.size w w' := by
  have HR := Lib.hid hr
  clear hr
  rcases A with _ | ad
  · have h0 : xs = [] := by
      obtain ⟨A, c', he, _, _, hp⟩ := byts_parts HR.out
      rcases Nat.eq_zero_or_pos xs.length with h | h
      · exact List.eq_nil_of_length_eq_zero h
      · obtain ⟨ad, h1, _⟩ := hp 0 h
        cases he
        cases h1
    subst h0
    have he := fun W : World => Lib.run_eql_slice_nil (P := Tryd.prog) W 22 5 none 0 c 0 0 Tryd.underlying22
    go_enter Tryd.func39, Tryd.ntmps39
    go_wp2
    go_ret
    exact ⟨_, rfl, Own.nil _ _ _ _ _, Below.refl _ _⟩
  · have he := fun W : World => Lib.run_eql_slice_nil (P := Tryd.prog) W 22 5 (some ad) xs.length c 0 0 Tryd.underlying22
    go_enter Tryd.func39, Tryd.ntmps39
    go_wp2_with (at_builtin; go_must (refine wp_append_bytes (B := w.heap.size) rfl _ _ rfl Tryd.underlying22 info5 _ [] xs _ rfl rfl (own_lit_bytes [] (Nat.le_refl _) rfl (by simp) (by simp)) (HR.out.old (bl_alloc (bl_refl _) _)) (by simp) (by simp; omega) ?_; intro v1 w1 ho1 hbl1 hg1 hat1; clear hg1 hat1))
    go_ret
    exact ⟨_, rfl, by simpa using ho1, hbl1 _ (bl_alloc (bl_refl _) _)⟩
set_option maxHeartbeats 400000 in
theorem Equal_any (S S' : Nat → Prop) (v v' : Value) (xs ys : List UInt8) (w : World) (hr : Rep S w v (byts xs)) (hr' : Rep S' w v' (byts ys)) :
    Calls Tryd.prog 43 #[v, v'] w fun e w' => e = .returned (.bool (decide (xs = ys))) ∧ w' = w := by
  have h1 := byts_string Tryd.underlying22 Tryd.underlying5 Tryd.underlying9 hr
  have h2 := byts_string Tryd.underlying22 Tryd.underlying5 Tryd.underlying9 hr'
  clear hr hr'
  go_enter Tryd.func43, Tryd.ntmps43
  go_wp2
  go_ret
  refine ⟨ret_bool ?_, rfl⟩
  rw [Bool.eq_iff_iff]
  simp
set_option maxHeartbeats 400000 in
theorem Same01_any (S S' : Nat → Prop) (v v' : Value) (xs ys : List UInt8) (w : World) (hr : Rep S w v (byts xs)) (hr' : Rep S' w v' (byts ys)) :
    Calls Tryd.prog 13 #[v, v'] w fun e w' => e = .returned (.bool (decide (xs = ys))) ∧ ∃ n, w' = w.drewN n := by
  obtain ⟨A, c, rfl, hc, hm, hp⟩ := byts_parts hr
  obtain ⟨A', c', rfl, hc', hm', hp'⟩ := byts_parts hr'
  have HP := Lib.hid hp
  have HP' := Lib.hid hp'
  clear hp hp' hr hr'
  by_cases hl : xs.length = ys.length
  · have hl1 : ((xs.length : Int) != (ys.length : Int)) = false := by simp [hl]
    have hl2 : (xs.length != ys.length) = false := by simp [hl]
    have HL := Lib.hid hl
    have hle : xs.length ≤ ys.length := by omega
    clear hl
    go_enter Tryd.func13, Tryd.ntmps13
    go_wp2
    go_loopw [5] (fun i wr => ∃ k : Nat, k ≤ xs.length ∧ i = .int .i64 (k : Int) ∧ xs.take k = ys.take k ∧ ∃ n, wr = w.drewN n) (fun i _ => xs.length - (intOf i).toNat)
    case atStart => exact ⟨0, Nat.zero_le _, rfl, rfl, 0, rfl⟩
    case round =>
      obtain ⟨k, hk, rfl, heq, n, rfl⟩ := hrel
      have HE := Lib.hid heq
      clear heq
      by_cases hlt : k < xs.length
      · have hlt' : k < ys.length := by omega
        obtain ⟨ad, rfl, e1⟩ := HP.out k hlt
        obtain ⟨ad', rfl, e2⟩ := HP'.out k hlt'
        by_cases hb : xs[k] = ys[k]
        · have hb1 : (((xs[k].toNat : Nat) : Int) != ((ys[k].toNat : Nat) : Int)) = false := by simp [hb]
          have HB := Lib.hid hb
          clear hb
          go_wp2
          go_quiet (fail)
          go_wp2
          go_roundw
          case rel =>
            refine ⟨k + 1, by omega, by go_num, ?_, _, rfl⟩
            rw [List.take_succ_eq_append_getElem hlt, List.take_succ_eq_append_getElem hlt', HE.out, HB.out]
          case measure => simp [intOf]; omega
        · have hb1 : (((xs[k].toNat : Nat) : Int) != ((ys[k].toNat : Nat) : Int)) = true := by
            rw [bne_iff_ne]; intro h; exact hb (UInt8.toNat_inj.1 (by omega))
          have hf : decide (xs = ys) = false := by
            rw [decide_eq_false_iff_not]; intro h; subst h; exact hb rfl
          have HF := Lib.hid hf
          clear hb hf
          go_wp2
          go_quiet (fail)
          go_wp2
          go_ret
          exact ⟨ret_bool (by rw [HF.out]), _, World.drewN_drewN ..⟩
      · have hke : k = xs.length := by omega
        have hf : decide (xs = ys) = true := by
          rw [decide_eq_true_iff]
          have h1 := HE.out
          rwa [hke, List.take_length, HL.out, List.take_length] at h1
        have HF := Lib.hid hf
        clear hke hf
        go_wp2
        go_ret
        exact ⟨ret_bool (by rw [HF.out]), _, rfl⟩
  · have hl1 : ((xs.length : Int) != (ys.length : Int)) = true := by rw [bne_iff_ne]; omega
    have hl2 : (xs.length != ys.length) = true := by rw [bne_iff_ne]; exact hl
    have hf : decide (xs = ys) = false := by rw [decide_eq_false_iff_not]; intro h; subst h; exact hl rfl
    have HF := Lib.hid hf
    clear hl hf
    go_enter Tryd.func13, Tryd.ntmps13
    go_wp2
    go_ret
    exact ⟨ret_bool (by rw [HF.out]), 0, rfl⟩
end Go.Proofs.YtfgeldeaahdddaaDoor
