import Derived.Test.YtfgeldeaahdddaaDoorProg
import Derived.Test.YtfgeldeaahdddaaDoorDerSpec
import Derived.KernelRfl
import Derived.Test.YtfgeldeaahdddaaDoorSmall
set_option linter.unusedVariables false
set_option linter.unusedSimpArgs false
namespace Go.Proofs.YtfgeldeaahdddaaDoor
open Go.RowKit Lx


theorem tag_int (b : UInt8) : tagOk b = decide (1 ≤ (b.toNat : Int) ∧ (b.toNat : Int) ≤ 254 ∧ (b.toNat : Int) % 32 ≠ 31 ∧ (32 ≤ (b.toNat : Int) ∨ (b.toNat : Int) % 32 ≠ 0)) := by
  unfold tagOk
  rw [Bool.eq_iff_iff, decide_eq_true_iff, decide_eq_true_iff]
  omega
set_option maxHeartbeats 400000 in
theorem right_any (b : UInt8) (w : World) :
    Calls Tryd.prog 36 #[.int .u8 (b.toNat : Int)] w fun e w' => e = .returned (.bool (tagOk b)) ∧ w' = w := by
  have h1 : ((b.toNat : Nat) : Int) ≤ 255 := by have := UInt8.toNat_lt b; omega
  have h0 : 0 ≤ ((b.toNat : Nat) : Int) := by omega
  have HD := Lib.hid (tag_int b)
  generalize tagOk b = r at HD ⊢
  generalize ((b.toNat : Nat) : Int) = t at h0 h1 HD ⊢
  go_enter Tryd.func36, Tryd.ntmps36
  go_wp2
  all_goals
    go_ret
    refine ⟨ret_bool ?_, rfl⟩
    rw [HD.out, Bool.eq_iff_iff]
    simp
    omega
set_option maxHeartbeats 400000 in
theorem Tag_any (b : UInt8) (w : World) :
    Calls Tryd.prog 40 #[.int .i64 (b.toNat : Int)] w fun e w' => e = .returned (.bool (tagOk b)) ∧ w' = w := by
  have h1 : ((b.toNat : Nat) : Int) ≤ 255 := by have := UInt8.toNat_lt b; omega
  have h0 : 0 ≤ ((b.toNat : Nat) : Int) := by omega
  have HD := Lib.hid (tag_int b)
  generalize tagOk b = r at HD ⊢
  generalize ((b.toNat : Nat) : Int) = t at h0 h1 HD ⊢
  go_enter Tryd.func40, Tryd.ntmps40
  go_wp2
  all_goals
    go_ret
    refine ⟨ret_bool ?_, rfl⟩
    rw [HD.out, Bool.eq_iff_iff]
    simp
    omega
theorem comp_bits : ∀ b : Fin 256, (Go.bits .and .u8 ((b.val : Nat) : Int) 32 != 0) = decide (b.val / 32 % 2 = 1) := by decide +kernel
set_option maxHeartbeats 400000 in
theorem composed_any (b : UInt8) (w : World) :
    Calls Tryd.prog 38 #[.int .u8 (b.toNat : Int)] w fun e w' => e = .returned (.bool (comp b)) ∧ w' = w := by
  have h1 := UInt8.toNat_lt b
  have hc := comp_bits ⟨b.toNat, h1⟩
  have HC := Lib.hid hc
  clear hc
  go_enter Tryd.func38, Tryd.ntmps38
  go_wp2
  go_ret
  exact ⟨ret_bool HC.out, rfl⟩
set_option maxHeartbeats 400000 in
theorem New_any (c a : Int) (w : World) :
    Calls Tryd.prog 23 #[.int .i64 c, .int .i64 a] w fun e w' => e = .returned (.iface 70 (.agg #[.int .i64 c, .int .i64 a])) ∧ w' = w := by
  go_enter Tryd.func23, Tryd.ntmps23
  go_wp2
  go_ret
  exact ⟨rfl, rfl⟩
set_option maxHeartbeats 400000 in
/-- pyxref08.Number -/
theorem Number_any (n : Nat) (w : World) (hn : n ≤ 1099511627776) :
    Calls Tryd.prog 35 #[.int .i64 (n : Int)] w fun e w' => ∃ v, e = .returned v ∧ Rep (fun k => w.heap.size ≤ k) w' v (byts (num n)) ∧ Below w.heap.size w w' := by
  go_enter Tryd.func35, Tryd.ntmps35
  go_wp2
  go_loopw [0, 3] (fun m o wr => ∃ (q : Nat) (xs : List UInt8), q ≤ n ∧ m = .int .i64 (q : Int) ∧ num n = num q ++ xs ∧ Own (fun _ => False) wr w.heap.size 5 o 1 (xs.map byteCell) ∧ xs.length + q ≤ n ∧ Below w.heap.size w wr) (fun m _ _ => (intOf m).toNat)
  case atStart => exact ⟨n, [], Nat.le_refl _, rfl, by simp, Own.nil _ _ _ _ _, by simp, Below.refl _ _⟩
  case round =>
    obtain ⟨q, xs, hq, rfl, hnum, ho, hlen, hb⟩ := hrel
    have HN := Lib.hid hnum
    have HB := Lib.hid hb
    have HO := Lib.hid ho
    obtain ⟨A, c, rfl, hc, hm⟩ := ho.bytes_slice
    clear hnum hb ho
    by_cases h0 : 0 < q
    · have hq0 : q % 256 < 256 := Nat.mod_lt _ (by omega)
      have H5 := Lib.hid (num_pos q h0)
      go_wp2_with (at_builtin; go_must (refine wp_append_bytes (B := w.heap.size) rfl _ _ rfl Tryd.underlying22 info5 _ [UInt8.ofNat (q % 256)] xs _ rfl rfl (own_lit_bytes [UInt8.ofNat (q % 256)] (HB.out.size) rfl (by simp) (by simp)) (HO.out.bytes_rep.old (bl_alloc (bl_refl _) _)) (by have := HB.out.size; simp; omega) (by simp; omega) ?_; intro v1 w1 ho1 hbl1 hg1 hat1; clear hg1 hat1))
      go_roundw
      case rel => exact ⟨q / 256, [UInt8.ofNat (q % 256)] ++ xs, by omega, by go_num, by rw [HN.out, H5.out, List.append_assoc], ho1, by simp; omega, hbl1 _ (bl_alloc HB.out _)⟩
      case measure => simp [intOf]; omega
    · have hq0 : q = 0 := by omega
      subst hq0
      have hx : num n = xs := by rw [HN.out, num_zero]; rfl
      have HX := Lib.hid hx
      clear hx
      go_wp2
      go_ret
      exact ⟨_, rfl, by rw [HX.out]; exact HO.out.bytes_rep, HB.out⟩
end Go.Proofs.YtfgeldeaahdddaaDoor
