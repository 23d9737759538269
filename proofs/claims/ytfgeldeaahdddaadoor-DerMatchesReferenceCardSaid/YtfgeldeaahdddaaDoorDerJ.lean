/- pyxref08.Parse. -/
import Derived.Test.YtfgeldeaahdddaaDoorDerI
set_option linter.unusedVariables false
set_option linter.unusedSimpArgs false
namespace Go.Proofs.YtfgeldeaahdddaaDoor
open Go.RowKit Lx

theorem refParse_results {tmps : Array Value} {w : World} {g : Nat} {cs : Array Value} (hp : tmps.getD 2 undef = .pointer (some ⟨g, 0, none⟩)) (hg : w.heap[g]? = some (.cells cs 35 (0, 0))) (hs : cs.size = 6) : (results Tryd.f9 tmps).run Tryd.prog w = .ok (.agg cs) w :=
  res_cell (fn := Tryd.f9) rfl hp hg Tryd.underlying35 rfl (by rw [hs]; kernel_rfl)
set_option maxRecDepth 100000 in
set_option maxHeartbeats 4000000 in
theorem refParse_any (S : Nat → Prop) (A : Option Addr) (c : Nat) (b : List UInt8) (w : World) (hr : Rep S w (.slice A b.length c) (byts b)) (hb : b.length ≤ 1000000) :
    Calls Tryd.prog 9 #[.slice A b.length c] w fun ev w' => ∃ v, ev = .returned v ∧ ResV (fun k => w.heap.size ≤ k) w' v (pparse b) ∧ Below w.heap.size w w' := by
  have HR := Lib.hid hr
  have hih := read_calls 8 S A c b 0 b.length (b.length : Int) 0 (w.alloc (.cells #[.int .u8 0, .slice none 0 0, .slice none 0 0, .int .i64 0, .int .i64 0, .int .i64 0] 35)) rfl (by omega) (hr.old (bl_alloc (bl_refl _) _)) (Nat.le_refl _) (Nat.zero_le _) hb (by omega)
  have hlim : ¬ 1048576 < b.length := by omega
  have hpp : pparse b = if (pread 8 b 0 b.length).code = 0 ∧ (pread 8 b 0 b.length).next < b.length then .err 4 (pread 8 b 0 b.length).next else pread 8 b 0 b.length := by unfold pparse; rw [if_neg hlim]
  have hnext : (pread 8 b 0 b.length).next ≤ 1000000 := by
    by_cases h : (pread 8 b 0 b.length).code = 0
    · obtain ⟨_, _, _, _, h5, _⟩ := pread_ok 8 b 0 b.length (Nat.le_refl _) h
      omega
    · rw [pread_err 8 b 0 b.length h]; simp [PR.err]
  have HPP := Lib.hid hpp
  generalize pread 8 b 0 b.length = pr at *
  have HIH := Lib.hid hih
  clear hr hih hpp
  by_cases h1 : pr.code = 0
  · have h1b : (((pr.code : Nat) : Int) == 0) = true := by simp [h1]
    by_cases h2 : pr.next < b.length
    · have HP2 := Lib.hid (show pparse b = .err 4 pr.next by rw [HPP.out, if_pos ⟨h1, h2⟩])
      have H1 := Lib.hid h1
      clear h1
      go_enter Tryd.func9, Tryd.ntmps9
      go_wp2_with (go_at_call 25; go_must (refine HIH.out.mono ?_; rintro ev w1 ⟨v, rfl, ⟨A1, k1, A2, k2, rfl, m1, m2, g1, g2⟩, hb1⟩; have hq := Nat.lt_of_lt_of_le (blk_lt (new_block w (.cells #[.int .u8 0, .slice none 0 0, .slice none 0 0, .int .i64 0, .int .i64 0, .int .i64 0] 35))) hb1.size; have hy := (hb1.block _ (blk_lt (new_block w _))).trans (new_block w _); have ys0 := blk_cell hy 0; have ys1 := blk_cell hy 1; have ys2 := blk_cell hy 2; have ys3 := blk_cell hy 3; have ys4 := blk_cell hy 4; have ys5 := blk_cell hy 5; have yz0 := blk_frozen hy 0; have yz1 := blk_frozen hy 1; have yz2 := blk_frozen hy 2; have yz3 := blk_frozen hy 3; have yz4 := blk_frozen hy 4; have yz5 := blk_frozen hy 5; simp only [List.getElem?_toArray, List.getElem?_cons_zero, List.getElem?_cons_succ] at ys0 ys1 ys2 ys3 ys4 ys5; have HY := Lib.hid hy; have HB1 := Lib.hid hb1; have G1 := Lib.hid g1; have G2 := Lib.hid g2; clear hy hb1 g1 g2))
      refine bodyPost_ret (refParse_results rfl (alloc_keep (blk_set6 HY.out _ _ _ _ _ _) _) rfl) rfl ⟨_, rfl, by rw [HP2.out]; exact ResV.err _ _ 4 pr.next, ?_⟩
      refine bl_alloc ?_ _
      (repeat (with_reducible refine bl_set ?_ (by first | exact Nat.le_refl _ | (simp; done) | (simp; omega)) _)); exact bl_then (bl_alloc (bl_refl _) _) HB1.out
    · have HP2 := Lib.hid (show pparse b = pr by rw [HPP.out, if_neg (fun h => h2 h.2)])
      have H1 := Lib.hid h1
      clear h1
      go_enter Tryd.func9, Tryd.ntmps9
      go_wp2_with (go_at_call 25; go_must (refine HIH.out.mono ?_; rintro ev w1 ⟨v, rfl, ⟨A1, k1, A2, k2, rfl, m1, m2, g1, g2⟩, hb1⟩; have hq := Nat.lt_of_lt_of_le (blk_lt (new_block w (.cells #[.int .u8 0, .slice none 0 0, .slice none 0 0, .int .i64 0, .int .i64 0, .int .i64 0] 35))) hb1.size; have hy := (hb1.block _ (blk_lt (new_block w _))).trans (new_block w _); have ys0 := blk_cell hy 0; have ys1 := blk_cell hy 1; have ys2 := blk_cell hy 2; have ys3 := blk_cell hy 3; have ys4 := blk_cell hy 4; have ys5 := blk_cell hy 5; have yz0 := blk_frozen hy 0; have yz1 := blk_frozen hy 1; have yz2 := blk_frozen hy 2; have yz3 := blk_frozen hy 3; have yz4 := blk_frozen hy 4; have yz5 := blk_frozen hy 5; simp only [List.getElem?_toArray, List.getElem?_cons_zero, List.getElem?_cons_succ] at ys0 ys1 ys2 ys3 ys4 ys5; have HY := Lib.hid hy; have HB1 := Lib.hid hb1; have G1 := Lib.hid g1; have G2 := Lib.hid g2; clear hy hb1 g1 g2))
      refine bodyPost_ret (refParse_results rfl (alloc_keep (blk_set6 HY.out _ _ _ _ _ _) _) rfl) rfl ⟨_, rfl, ?_, ?_⟩
      · rw [HP2.out]
        have mv : ∀ {u : Value} {q : Cl} {W : World}, (∀ k, w.heap.size + 1 ≤ k → k < w1.heap.size → W.heap[k]? = w1.heap[k]?) → Rep (fun k => (w.alloc (.cells #[.int .u8 0, .slice none 0 0, .slice none 0 0, .int .i64 0, .int .i64 0, .int .i64 0] 35)).heap.size ≤ k) w1 u q → Rep (fun k => w.heap.size ≤ k) W u q := fun h1 h2 => h2.move' fun k hk hl => by
          have hk' : w.heap.size + 1 ≤ k := by simpa using hk
          exact ⟨by show w.heap.size ≤ k; omega, h1 k hk' hl⟩
        refine ⟨A1, k1, A2, k2, rfl, m1, m2, mv (fun k hk hl => ?_) G1.out, mv (fun k hk hl => ?_) G2.out⟩ <;> (refine (alloc_old _ _ _ (by simp; exact hl)).trans ?_; (repeat (refine (Below.heap_setCell _ _ _ _ (by simp; omega)).trans ?_)); with_reducible rfl)
      · refine bl_alloc ?_ _
        (repeat (with_reducible refine bl_set ?_ (by first | exact Nat.le_refl _ | (simp; done) | (simp; omega)) _)); exact bl_then (bl_alloc (bl_refl _) _) HB1.out
  · have h1b : (((pr.code : Nat) : Int) == 0) = false := by simp [h1]
    have HP2 := Lib.hid (show pparse b = pr by rw [HPP.out, if_neg (fun h => h1 h.1)])
    have H1 := Lib.hid h1
    clear h1
    go_enter Tryd.func9, Tryd.ntmps9
    go_wp2_with (go_at_call 25; go_must (refine HIH.out.mono ?_; rintro ev w1 ⟨v, rfl, ⟨A1, k1, A2, k2, rfl, m1, m2, g1, g2⟩, hb1⟩; have hq := Nat.lt_of_lt_of_le (blk_lt (new_block w (.cells #[.int .u8 0, .slice none 0 0, .slice none 0 0, .int .i64 0, .int .i64 0, .int .i64 0] 35))) hb1.size; have hy := (hb1.block _ (blk_lt (new_block w _))).trans (new_block w _); have ys0 := blk_cell hy 0; have ys1 := blk_cell hy 1; have ys2 := blk_cell hy 2; have ys3 := blk_cell hy 3; have ys4 := blk_cell hy 4; have ys5 := blk_cell hy 5; have yz0 := blk_frozen hy 0; have yz1 := blk_frozen hy 1; have yz2 := blk_frozen hy 2; have yz3 := blk_frozen hy 3; have yz4 := blk_frozen hy 4; have yz5 := blk_frozen hy 5; simp only [List.getElem?_toArray, List.getElem?_cons_zero, List.getElem?_cons_succ] at ys0 ys1 ys2 ys3 ys4 ys5; have HY := Lib.hid hy; have HB1 := Lib.hid hb1; have G1 := Lib.hid g1; have G2 := Lib.hid g2; clear hy hb1 g1 g2))
    refine bodyPost_ret (refParse_results rfl (alloc_keep (blk_set6 HY.out _ _ _ _ _ _) _) rfl) rfl ⟨_, rfl, ?_, ?_⟩
    · rw [HP2.out]
      have mv : ∀ {u : Value} {q : Cl} {W : World}, (∀ k, w.heap.size + 1 ≤ k → k < w1.heap.size → W.heap[k]? = w1.heap[k]?) → Rep (fun k => (w.alloc (.cells #[.int .u8 0, .slice none 0 0, .slice none 0 0, .int .i64 0, .int .i64 0, .int .i64 0] 35)).heap.size ≤ k) w1 u q → Rep (fun k => w.heap.size ≤ k) W u q := fun h1 h2 => h2.move' fun k hk hl => by
        have hk' : w.heap.size + 1 ≤ k := by simpa using hk
        exact ⟨by show w.heap.size ≤ k; omega, h1 k hk' hl⟩
      refine ⟨A1, k1, A2, k2, rfl, m1, m2, mv (fun k hk hl => ?_) G1.out, mv (fun k hk hl => ?_) G2.out⟩ <;> (refine (alloc_old _ _ _ (by simp; exact hl)).trans ?_; (repeat (refine (Below.heap_setCell _ _ _ _ (by simp; omega)).trans ?_)); with_reducible rfl)
    · refine bl_alloc ?_ _
      (repeat (with_reducible refine bl_set ?_ (by first | exact Nat.le_refl _ | (simp; done) | (simp; omega)) _)); exact bl_then (bl_alloc (bl_refl _) _) HB1.out
end Go.Proofs.YtfgeldeaahdddaaDoor
