/- der.width: how many bytes a number has. -/
import Derived.Test.YtfgeldeaahdddaaDoorProg
import Derived.Test.YtfgeldeaahdddaaDoorDerSpec
import Derived.Test.YtfgeldeaahdddaaDoorShelf
set_option linter.unusedVariables false
set_option linter.unusedSimpArgs false
namespace Go.Proofs.YtfgeldeaahdddaaDoor
open Go.RowKit Lx

theorem bitLenAux_zero (f : Nat) : Lib.bitLenAux f 0 = 0 := by cases f <;> simp [Lib.bitLenAux]
theorem bitLenAux_more (f : Nat) : ∀ x, x < 2 ^ f → Lib.bitLenAux (f + 1) x = Lib.bitLenAux f x := by
  induction f with
  | zero => intro x hx; have : x = 0 := by omega
            subst this; simp [Lib.bitLenAux]
  | succ f ih =>
    intro x hx
    rw [Lib.bitLenAux]
    conv => rhs; rw [Lib.bitLenAux]
    by_cases h : x = 0
    · rw [if_pos h, if_pos h]
    · rw [if_neg h, if_neg h, ih (x / 2) (by rw [Nat.pow_succ] at hx; omega)]
theorem bitLen_half (x : Nat) (h0 : 0 < x) (h : x < 2 ^ 64) : Lib.bitLen x = 1 + Lib.bitLen (x / 2) := by
  unfold Lib.bitLen
  rw [show (64 : Nat) = 63 + 1 from rfl, Lib.bitLenAux, if_neg (by omega), bitLenAux_more 63 (x / 2) (by omega)]
theorem bitLen_0 : Lib.bitLen 0 = 0 := bitLenAux_zero 64
theorem bitLen_8 (x : Nat) (h0 : 256 ≤ x) (h : x < 2 ^ 64) : Lib.bitLen x = 8 + Lib.bitLen (x / 256) := by
  rw [bitLen_half x (by omega) h, bitLen_half (x / 2) (by omega) (by omega), bitLen_half (x / 2 / 2) (by omega) (by omega), bitLen_half (x / 2 / 2 / 2) (by omega) (by omega), bitLen_half (x / 2 / 2 / 2 / 2) (by omega) (by omega),
    bitLen_half (x / 2 / 2 / 2 / 2 / 2) (by omega) (by omega), bitLen_half (x / 2 / 2 / 2 / 2 / 2 / 2) (by omega) (by omega), bitLen_half (x / 2 / 2 / 2 / 2 / 2 / 2 / 2) (by omega) (by omega)]
  rw [show x / 2 / 2 / 2 / 2 / 2 / 2 / 2 / 2 = x / 256 by omega]
  omega
theorem bitLen_small (x : Nat) (h : x < 256) : Lib.bitLen x ≤ 8 ∧ (0 < x → 0 < Lib.bitLen x) := by
  have : ∀ x : Fin 256, Lib.bitLen x.val ≤ 8 ∧ (0 < x.val → 0 < Lib.bitLen x.val) := by decide +kernel
  exact this ⟨x, h⟩
theorem num_width (x : Nat) : x < 2 ^ 64 → (Lib.bitLen x + 7) / 8 = (num x).length := by
  induction x using Nat.strongRecOn with
  | ind x ih =>
    intro h
    by_cases h0 : x = 0
    · subst h0; rw [bitLen_0, num_zero]; rfl
    · rw [num_pos x (by omega), List.length_append]
      by_cases h1 : x < 256
      · have := bitLen_small x h1
        rw [show x / 256 = 0 by omega, num_zero]
        have h2 := this.2 (by omega)
        simp
        omega
      · rw [bitLen_8 x (by omega) h, ← ih (x / 256) (by omega) (by omega)]
        simp
        omega
theorem bitLen_le (x : Nat) (h : x < 2 ^ 62) : Lib.bitLen x ≤ 64 := by
  have h1 := num_width x (by omega)
  have : ∀ f y, Lib.bitLenAux f y ≤ f := by
    intro f
    induction f with
    | zero => intro y; simp [Lib.bitLenAux]
    | succ f ih => intro y; rw [Lib.bitLenAux]; split
                   · omega
                   · have := ih (y / 2); omega
  exact this 64 x
set_option maxHeartbeats 400000 in
theorem width_any (n : Nat) (w : World) (hn : n ≤ 4000000000000) :
    Calls Tryd.prog 42 #[.int .i64 (n : Int)] w fun e w' => e = .returned (.int .i64 ((num n).length : Int)) ∧ w' = w := by
  have h1 := num_width n (by omega)
  have h2 := bitLen_le n (by omega)
  have H1 := Lib.hid h1
  clear h1
  go_enter Tryd.func42, Tryd.ntmps42
  go_wp2_with (go_at_call 48; go_must (refine (Tryd.bits_Len _ _ (by omega) (by omega)).mono ?_; rw [Int.toNat_natCast]; rintro e w1 ⟨rfl, rfl⟩))
  go_ret
  exact ⟨ret_int (by rw [← H1.out]; omega), rfl⟩
end Go.Proofs.YtfgeldeaahdddaaDoor
