/- Take, and the reference's Take. -/
import Derived.Test.YtgmnghnnlnohbaaWireA
set_option linter.unusedVariables false
set_option linter.unusedSimpArgs false
namespace Go.Proofs.Ytgmnghnnlnohbaa
open Go.RowKit Lx

/-- n bytes are there behind offset i. -/
def tk (b : List UInt8) (i : Nat) (n : Int) : Bool := decide (0 ≤ n ∧ n ≤ (b.length : Int) - i)
def tkB (b : List UInt8) (i : Nat) (n : Int) : List UInt8 := if tk b i n then (b.drop i).take n.toNat else []
def tkI (b : List UInt8) (i : Nat) (n : Int) : Nat := if tk b i n then i + n.toNat else i
theorem tkI_le (b : List UInt8) (i : Nat) (n : Int) (hi : i ≤ b.length) : tkI b i n ≤ b.length := by
  unfold tkI tk
  split
  · rename_i h; simp at h; omega
  · exact hi
theorem tkB_le (b : List UInt8) (i : Nat) (n : Int) : (tkB b i n).length ≤ b.length := by
  unfold tkB
  split
  · rw [List.length_take, List.length_drop]; omega
  · simp

set_option maxHeartbeats 2000000 in
theorem Take_any (S : Nat → Prop) (g : Nat) (A : Option Addr) (c : Nat) (b : List UInt8) (i : Nat) (n : Int) (w : World) (hx : Rdr w g A c b i) (hr : Rep S w (.slice A b.length c) (byts b)) (hS : ∀ k, S k → k ≠ g) (hi : i ≤ b.length) (hb : b.length ≤ 1000) :
    Calls Try.prog 6 #[.pointer (some ⟨g, 0, none⟩), .int .i64 n] w
      fun ev w' => ∃ v, ev = .returned (.tuple #[v, .bool (tk b i n)]) ∧ Own (fun _ => False) w' w.heap.size 5 v 1 ((tkB b i n).map byteCell) ∧ Rdr w' g A c b (tkI b i n : Nat) ∧ w.grownBy w' (some g) := by
  have HX := Lib.hid hx
  have HR := Lib.hid hr
  unfold Rdr at hx
  have q0 := blk_cell hx 0
  have q1 := blk_cell hx 1
  have fz := blk_frozen hx 1
  have qg := blk_lt hx
  simp only [List.getElem?_toArray, List.getElem?_cons_zero, List.getElem?_cons_succ] at q0 q1
  clear hx hr
  by_cases c1 : n < 0
  · have HT := Lib.hid (show tk b i n = false by unfold tk; rw [decide_eq_false_iff_not]; omega)
    go_enter Try.func6, Try.ntmps6
    go_wp2
    go_ret2
    unfold tkB tkI
    rw [HT.out]
    exact ⟨_, rfl, Own.nil _ _ _ _ _, HX.out, gr_refl _ _⟩
  · by_cases c2 : (b.length : Int) - i < n
    · have HT := Lib.hid (show tk b i n = false by unfold tk; rw [decide_eq_false_iff_not]; omega)
      go_enter Try.func6, Try.ntmps6
      go_wp2_with (go_at_call 13; go_must (refine (Left_any g A c b i _ HX.out hb hi).mono ?_; rintro e w1 ⟨rfl, m, rfl⟩))
      go_ret2
      unfold tkB tkI
      rw [HT.out]
      exact ⟨_, rfl, Own.nil _ _ _ _ _, HX.out, gr_drewN (gr_refl _ _) _⟩
    · obtain ⟨l, rfl⟩ : ∃ l : Nat, n = (l : Int) := ⟨n.toNat, by omega⟩
      have HT := Lib.hid (show tk b i (l : Int) = true by unfold tk; rw [decide_eq_true_iff]; omega)
      obtain ⟨A', hsl, hrc⟩ := slice_mid3 (P := Try.prog) Try.underlying22 info5 HR.out i l (by omega)
      have hlen : ((b.drop i).take l).length = l := by rw [List.length_take, List.length_drop]; omega
      have HB := Lib.hid (show tkB b i (l : Int) = (b.drop i).take l by unfold tkB; rw [HT.out]; rfl)
      have HI := Lib.hid (show tkI b i (l : Int) = i + l by unfold tkI; rw [HT.out]; rfl)
      generalize (b.drop i).take l = ys at hrc hlen HB
      have HRC := Lib.hid hrc
      clear hrc
      subst hlen
      go_enter Try.func6, Try.ntmps6
      go_wp2_with (go_at_call 13; go_must (refine (Left_any g A c b i _ HX.out hb hi).mono ?_; rintro e w1 ⟨rfl, m, rfl⟩))
      go_quiet (fail)
      have hg0 : ∀ (u : Value) (m : Nat), w.grownBy ((w.drewN m).setCell ⟨g, 1, none⟩ u) (some g) := fun u m => gr_set (gr_drewN (gr_refl _ _) _) _ _
      have HG := Lib.hid hg0
      have hrc2 : ∀ (u : Value) (m : Nat), Rep S ((w.drewN m).setCell ⟨g, 1, none⟩ u) (.slice A' ys.length ys.length) (byts ys) := fun u m => HRC.out.grown (HG.out u m) (fun k hk e => hS k hk (by injection e))
      have HRC2 := Lib.hid hrc2
      have hz : ∀ (u : Value) (m : Nat), ((w.drewN m).setCell ⟨g, 1, none⟩ u).heap.size = w.heap.size := fun u m => by simp
      have HZ := Lib.hid hz
      clear hg0 hrc2 hz
      go_wp2_with (go_at_call 16; go_must (refine (Clone_any S A' ys.length ys _ (HRC2.out _ _) (by omega)).mono ?_; rintro e w1 ⟨v, rfl, ho, hbl⟩))
      rw [HZ.out] at ho
      go_ret2
      rw [HT.out, HB.out, HI.out]
      refine ⟨_, rfl, ho, ?_, gr_below (HG.out _ _) hbl⟩
      unfold Rdr
      rw [hbl.block g (by rw [HZ.out]; exact qg)]
      exact blk_set (w := w.drewN _) HX.out 1 _
end Go.Proofs.Ytgmnghnnlnohbaa
