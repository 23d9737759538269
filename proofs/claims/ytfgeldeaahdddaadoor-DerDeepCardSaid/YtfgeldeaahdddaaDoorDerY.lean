/- DerDeep: the walk. -/
import Derived.Test.YtfgeldeaahdddaaDoorDerT
import Derived.Test.YtfgeldeaahdddaaDoorDerS
import Derived.KernelRfl
set_option linter.unusedVariables false
set_option linter.unusedSimpArgs false
namespace Go.Proofs.YtfgeldeaahdddaaDoor
open Go.RowKit Lx

def deepT : Nat → Tre
  | 0 => ⟨4, [], []⟩
  | k + 1 => ⟨48, [], [deepT k]⟩
theorem deep_bs (k : Nat) : (deepT k).bs = [] := by cases k <;> rfl
theorem deep_depth : ∀ k, (deepT k).depth = k + 1
  | 0 => by simp [deepT, Tre.depth, Tre.depthL]
  | k + 1 => by rw [deepT, Tre.depth, Tre.depthL, deep_depth k]; simp [Tre.depthL]; omega
theorem deep_len : ∀ k, k < 20 → (deepT k).text.length = 2 * k + 2
  | 0, _ => by kernel_rfl
  | k + 1, h => by
    have ih := deep_len k (by omega)
    rw [Tre.text_eq]
    simp only [deepT, Tre.bs, Tre.kids, Tre.textL, List.append_nil, List.nil_append, List.length_cons, List.length_append, lenEnc]
    rw [if_pos (by omega)]
    simp
    omega
theorem deep_parse : ∀ k, k < 20 → pparse (deepT k).text = if 8 ≤ k then .err 2 16 else ⟨deepT k, 2 * k + 2, 0, 0⟩ := by
  intro k hk
  rcases (by omega : k = 0 ∨ k = 1 ∨ k = 2 ∨ k = 3 ∨ k = 4 ∨ k = 5 ∨ k = 6 ∨ k = 7 ∨ k = 8 ∨ k = 9 ∨ k = 10 ∨ k = 11 ∨ k = 12 ∨ k = 13 ∨ k = 14 ∨ k = 15 ∨ k = 16 ∨ k = 17 ∨ k = 18 ∨ k = 19) with rfl | rfl | rfl | rfl | rfl | rfl | rfl | rfl | rfl | rfl | rfl | rfl | rfl | rfl | rfl | rfl | rfl | rfl | rfl | rfl
  all_goals kernel_rfl
theorem kid_one {S : Nat → Prop} {W : World} {h : Nat} {n : Tre} {A1 A2 : Option Addr} {c1 c2 : Nat} {t : TypeId} (hh : W.heap[h]? = some (.cells #[.int .u8 (n.tag.toNat : Int), .slice A1 n.bs.length c1, .slice A2 n.kids.length c2] t (0, 0))) (hS : S h)
    (r1 : Rep S W (.slice A1 n.bs.length c1) (byts n.bs)) (r2 : Rep S W (.slice A2 n.kids.length c2) (.sl 3 (Tre.cellsL n.kids))) : Rep S W (.slice (some ⟨h, 0, none⟩) 1 1) (.sl 3 (Tre.cellsL [n])) := by
  refine .sl _ 1 1 3 _ (fun j => #[Value.int .u8 (n.tag.toNat : Int), .slice A1 n.bs.length c1, .slice A2 n.kids.length c2].getD j (.bool false)) (by rw [Tre.cellsL_length]; simp) (by rw [Tre.cellsL_length]; rfl) (Nat.le_refl _) (by decide) hS (fun j hj => ?_) (fun j hj => ?_)
  · have hj3 : j < 3 := by rw [Tre.cellsL_length] at hj; exact hj
    match j, hj3 with
    | 0, _ => exact blk_cell hh 0
    | 1, _ => exact blk_cell hh 1
    | 2, _ => exact blk_cell hh 2
  · have hj3 : j < 3 := by rw [Tre.cellsL_length] at hj; exact hj
    have hc : Tre.cellsL [n] = [byteCell n.tag, byts n.bs, .sl 3 (Tre.cellsL n.kids)] := by simp [Tre.cellsL, Tre.cells_eq]
    simp only [hc]
    match j, hj3 with
    | 0, _ => exact .val _
    | 1, _ => exact r1
    | 2, _ => exact r2
set_option maxRecDepth 100000 in
set_option maxHeartbeats 8000000 in
theorem deep_calls (n : Nat) (w : World) (hg : Laid w) (hn : n ≤ 255) : Calls Tryd.prog 6 #[.int .u8 (n : Int)] w fun e w' => e = .returned (.bool true) ∧ Below w.heap.size w w' := by
  have HG := Lib.hid hg
  clear hg
  have hk20 : n % 20 < 20 := Nat.mod_lt _ (by decide)
  go_enter Tryd.func6, Tryd.ntmps6
  go_wp2_with fail
  refine (awake_any w HG.out).mono ?_
  rintro e w1 ⟨rfl, hb1⟩
  have HB1 := Lib.hid hb1
  clear hb1
  go_wp2
  go_loopw [5] (fun t wr => ∃ (i : Nat) (A2 : Option Addr) (c2 : Nat), i ≤ n % 20 ∧ t = .int .i64 (i : Int) ∧ Below w.heap.size w wr ∧ w1.heap.size < wr.heap.size
      ∧ wr.heap[w1.heap.size]? = some (.cells #[.int .u8 ((deepT i).tag.toNat : Int), .slice none 0 0, .slice A2 (deepT i).kids.length c2] 33 (0, 0))
      ∧ (deepT i).kids.length ≤ c2 ∧ Rep (fun k => w1.heap.size < k) wr (.slice A2 (deepT i).kids.length c2) (.sl 3 (Tre.cellsL (deepT i).kids))) (fun t _ => n % 20 - (intOf t).toNat)
  case atStart => exact ⟨0, none, 0, Nat.zero_le _, rfl, bl_alloc HB1.out _, by simp, new_block _ _, Nat.zero_le _, .nil _ _ _⟩
  case round =>
    obtain ⟨i, A2, c2, hi, rfl, hb, hgl, hx, hc2, hr⟩ := hrel
    have x0 := blk_cell hx 0; have x1 := blk_cell hx 1; have x2 := blk_cell hx 2; have xz0 := blk_frozen hx 0; have xz1 := blk_frozen hx 1; have xz2 := blk_frozen hx 2; simp only [List.getElem?_toArray, List.getElem?_cons_zero, List.getElem?_cons_succ] at x0 x1 x2
    have hw1 := HB1.out.size
    have e0 : (deepT i).bs.length = 0 := by rw [deep_bs]; rfl
    by_cases hlt : i < n % 20
    · have hltb : (i : Int) < (n : Int) % 20 := by omega
      have Hb := Lib.hid hb; have Hx := Lib.hid hx; have Hr := Lib.hid hr; have E0 := Lib.hid e0; clear hb hx hr e0
      go_wp2
      go_roundw
      case rel =>
        refine ⟨i + 1, some ⟨wr.heap.size, 0, none⟩, 1, by omega, by go_num, bl_alloc (bl_set (bl_set (bl_set Hb.out hw1 _) hw1 _) hw1 _) _, by simp; omega, alloc_keep (blk_set3 Hx.out _ _ _) _, Nat.le_refl _, ?_⟩
        have hnb := new_block (((wr.setCell ⟨w1.heap.size, 0, none⟩ (.int .u8 48)).setCell ⟨w1.heap.size, 1, none⟩ (.slice none 0 0)).setCell ⟨w1.heap.size, 2, none⟩ (.slice (some ⟨wr.heap.size, 0, none⟩) 1 1)) (.cells #[.int .u8 ((deepT i).tag.toNat : Int), .slice none (deepT i).bs.length 0, .slice A2 (deepT i).kids.length c2] 33)
        have hsz : (((wr.setCell ⟨w1.heap.size, 0, none⟩ (.int .u8 48)).setCell ⟨w1.heap.size, 1, none⟩ (.slice none 0 0)).setCell ⟨w1.heap.size, 2, none⟩ (.slice (some ⟨wr.heap.size, 0, none⟩) 1 1)).heap.size = wr.heap.size := by simp
        rw [hsz] at hnb
        have hr2 := Hr.out.move (w' := (((wr.setCell ⟨w1.heap.size, 0, none⟩ (.int .u8 48)).setCell ⟨w1.heap.size, 1, none⟩ (.slice none 0 0)).setCell ⟨w1.heap.size, 2, none⟩ (.slice (some ⟨wr.heap.size, 0, none⟩) 1 1)).alloc (.cells #[.int .u8 ((deepT i).tag.toNat : Int), .slice none (deepT i).bs.length 0, .slice A2 (deepT i).kids.length c2] 33)) (fun k hk hl => (alloc_old _ _ _ (by rw [hsz]; exact hl)).trans ((Below.heap_setCell _ _ _ _ (by simp; omega)).trans ((Below.heap_setCell _ _ _ _ (by simp; omega)).trans (Below.heap_setCell _ _ _ _ (by simp; omega)))))
        have h1 := kid_one hnb (S := fun k => w1.heap.size < k) hgl (by rw [deep_bs]; exact .nil _ _ _) hr2
        rw [E0.out] at h1
        exact h1
      case measure => simp [intOf]; omega
    · have hltb : ¬ (i : Int) < (n : Int) % 20 := by omega
      have hi20 : i < 20 := by omega
      have hlen := deep_len i hi20
      have hpar := deep_parse i hi20
      have hdep := deep_depth i
      have hT := refText_calls 20 (deepT i) (fun _ => True) (.agg #[.int .u8 ((deepT i).tag.toNat : Int), .slice none (deepT i).bs.length 0, .slice A2 (deepT i).kids.length c2]) wr (by omega) (by omega) ⟨none, 0, A2, c2, rfl, by omega, hc2, by rw [deep_bs]; exact .nil _ _ _, hr.mono fun _ _ _ => trivial⟩
      rw [e0] at hT
      generalize htx : (deepT i).text = tx at hlen hpar hT
      have hin : (n : Int) % 20 = i := by omega
      have hlen2 : tx.length ≤ 42 := by omega
      clear hlen
      have HT := Lib.hid hT; have Hpar := Lib.hid hpar; have Hb := Lib.hid hb; have Htx := Lib.hid htx; have Hin := Lib.hid hin; have Hdep := Lib.hid hdep; clear hT hpar hb htx hin hdep
      clear hr hx e0
      go_wp2_with fail
      refine HT.out.mono ?_
      rintro e w2 ⟨v2, rfl, ho2, hb2⟩
      have HB2 := Lib.hid (bl_then Hb.out hb2)
      have hov := ho2.bytes_slice
      obtain ⟨B1, k1, rfl, _, _⟩ := hov
      have HR2 := Lib.hid ho2.bytes_rep
      clear ho2 hb2
      go_wp2_with fail
      refine (Parse_any _ _ _ tx _ HR2.out (by omega)).mono ?_
      rw [Hpar.out]
      by_cases h8 : 8 ≤ i
      · have h8b : 8 ≤ (n : Int) % 20 := by have := Hin.out; omega
        rw [if_pos h8]
        rintro e w3 ⟨v3, rfl, hn3, hb3⟩
        have hno := NodeE_no (by decide) hn3
        obtain ⟨u3, rfl, B3, k3, B4, k4, rfl, _⟩ := hno
        have HB3 := Lib.hid (bl_then HB2.out hb3)
        clear hb3 hn3
        go_wp2_with fail
        refine (told_yes 2 16 _ (HG.out.move (bl_alloc HB3.out _)) (by decide) (by decide)).mono ?_
        rintro e w4 ⟨rfl, hb4⟩
        go_wp2
        go_ret
        exact ⟨rfl, bl_then (bl_alloc HB3.out _) hb4⟩
      · have h8b : ¬ 8 ≤ (n : Int) % 20 := by have := Hin.out; omega
        rw [if_neg h8]
        rintro e w3 ⟨v3, rfl, hn3, hb3⟩
        have hno := NodeE_ok hn3
        obtain ⟨u3, rfl, hu3⟩ := hno
        have HU3 := Lib.hid hu3
        obtain ⟨B3, k3, B4, k4, rfl, _⟩ := hu3
        have HB3 := Lib.hid (bl_then HB2.out hb3)
        clear hb3 hn3
        have hd8 : (((i + 1 : Nat) : Int) == (n : Int) % 20 + 1) = true := by have := Hin.out; simp; omega
        go_wp2_with fail
        refine (depth_calls 1000000000000 (deepT i) _ _ _ (by have := Hdep.out; omega) (Nat.le_refl _) (HU3.out.old (bl_alloc (bl_refl _) _))).mono ?_
        rw [Hdep.out]
        rintro e w4 ⟨rfl, hb4⟩
        go_wp2
        go_ret
        have hi9 := Hin.out
        exact ⟨ret_bool (by simp; omega), bl_then (bl_alloc HB3.out _) hb4⟩
end Go.Proofs.YtfgeldeaahdddaaDoor
