/- Word. -/
import Derived.Test.YtgmnghnnlnohbaaWireC
import Derived.Laws.BitsAllLaws
set_option linter.unusedVariables false
set_option linter.unusedSimpArgs false
namespace Go.Proofs.Ytgmnghnnlnohbaa
open Go.RowKit Lx

def wv (l : List UInt8) : Nat := l.foldl (fun a c => a * 256 + c.toNat) 0
theorem wv_snoc (l : List UInt8) (x : UInt8) : wv (l ++ [x]) = wv l * 256 + x.toNat := by simp [wv]
theorem wv_take (l : List UInt8) (k : Nat) (h : k < l.length) : wv (l.take (k + 1)) = wv (l.take k) * 256 + (l[k]).toNat := by
  rw [List.take_succ_eq_append_getElem h, wv_snoc]
theorem wv_lt (l : List UInt8) : ∀ k, k ≤ l.length → wv (l.take k) < 256 ^ k
  | 0, _ => by simp [wv]
  | k + 1, h => by
    have h1 := wv_lt l k (by omega)
    have h2 := UInt8.toNat_lt (l[k]'(by omega))
    rw [wv_take l k (by omega), Nat.pow_succ]
    omega
theorem wv_small (l : List UInt8) (k : Nat) (h : k ≤ l.length) (hk : k ≤ 7) : wv (l.take k) ≤ 72057594037927935 := by
  have h1 := wv_lt l k h
  have h2 : 256 ^ k ≤ 256 ^ 7 := Nat.pow_le_pow_right (by decide) hk
  have h3 : 256 ^ 7 = 72057594037927936 := by decide
  omega
theorem or_byte64 (n b : Nat) (hb : b < 256) (hn : n ≤ 72057594037927935) : Go.bits .or .u64 ((n : Int) * 256) (b : Int) = (n : Int) * 256 + b :=
  bits_join .u64 64 (by decide) (fun x h0 h1 => by rw [IntKind.wrap_u64]; omega) 8 _ _ (by omega) (by omega) (by omega) (by omega) (by omega) (by omega)
theorem wid_le {n : Int} (h : wid n = true) : 1 ≤ n ∧ n ≤ 8 := by
  unfold wid at h
  rw [decide_eq_true_iff] at h
  omega
theorem tkB_len {b : List UInt8} {i : Nat} {n : Int} (h : wid n = true) : (tkB b i n).length ≤ 8 := by
  have := wid_le h
  unfold tkB
  split
  · rw [List.length_take]; omega
  · simp

set_option maxRecDepth 100000 in
set_option maxHeartbeats 4000000 in
theorem Word_any (S : Nat → Prop) (g : Nat) (A : Option Addr) (c : Nat) (b : List UInt8) (i : Nat) (n : Int) (w : World) (hx : Rdr w g A c b i) (hr : Rep S w (.slice A b.length c) (byts b)) (hS : ∀ k, S k → k ≠ g) (hi : i ≤ b.length) (hb : b.length ≤ 1000) :
    Calls Try.prog 8 #[.pointer (some ⟨g, 0, none⟩), .int .i64 n] w
      fun ev w' => ev = .returned (.tuple #[.int .u64 ((if wid n then wv (tkB b i n) else 0 : Nat) : Int), .bool (wid n && tk b i n)]) ∧ Rdr w' g A c b ((if wid n then tkI b i n else i : Nat) : Int) ∧ w.grownBy w' (some g) := by
  have HX := Lib.hid hx
  have HR := Lib.hid hr
  clear hx hr
  cases hw : wid n
  · go_enter Try.func8, Try.ntmps8
    go_wp2_with (go_at_call 17; go_must (refine (width_any n _).mono ?_; rw [hw]; rintro e w1 ⟨rfl, rfl⟩))
    go_ret2
    exact ⟨rfl, HX.out, gr_refl _ _⟩
  · have hl8 := tkB_len (b := b) (i := i) hw
    have hwv : wv (tkB b i n) = wv ((tkB b i n).take (tkB b i n).length) := by rw [List.take_length]
    have HW := Lib.hid hw
    generalize hys : tkB b i n = ys at hl8 hwv
    have HYS := Lib.hid hys
    have HWV := Lib.hid hwv
    clear hw hys hwv
    go_enter Try.func8, Try.ntmps8
    go_wp2_with (first | (go_at_call 17; go_must (refine (width_any n _).mono ?_; rw [HW.out]; rintro e w1 ⟨rfl, rfl⟩)) | (go_at_call 6; go_must (refine (Take_any S g A c b i n _ HX.out HR.out hS hi hb).mono ?_; rw [HYS.out]; rintro e w2 ⟨v, rfl, ho, hrd, hgr⟩; obtain ⟨A9, c9, rfl, hc9, _⟩ := ho.bytes_slice; obtain ⟨_, _, h9, _, _, hp⟩ := byts_parts ho.bytes_rep; cases h9; have HP := Lib.hid hp; have HRD := Lib.hid hrd; have HGR := Lib.hid hgr; clear ho hrd hgr hp)))
    go_loop [8, 22] (fun s t => ∃ j : Nat, j ≤ ys.length ∧ t = .int .i64 (j : Int) ∧ s = .int .u64 ((wv (ys.take j) : Nat) : Int)) (fun _ t => ys.length - (intOf t).toNat)
    case atStart => exact ⟨0, Nat.zero_le _, rfl, rfl⟩
    case round =>
      obtain ⟨j, hj, rfl, rfl⟩ := hrel
      by_cases hlt : j < ys.length
      · obtain ⟨ad, rfl, d0⟩ := HP.out j hlt
        have hsm := wv_small ys j hj (by omega)
        have HOR := Lib.hid (or_byte64 (wv (ys.take j)) (ys[j]).toNat (UInt8.toNat_lt _) hsm)
        have HC := Lib.hid (wv_take ys j hlt)
        have hx2 := UInt8.toNat_lt ys[j]
        go_wp2
        go_round
        case rel =>
          refine ⟨j + 1, by omega, by go_num, ?_⟩
          rw [HOR.out]; exact int_eq (by have := HC.out; omega)
        case measure => simp [intOf]; omega
      · have hje : j = ys.length := by omega
        subst hje
        go_wp2
        go_ret2
        exact ⟨rfl, HRD.out, HGR.out⟩

theorem word_results {tmps : Array Value} {w : World} {g : Nat} {cs : Array Value} {t : TypeId} {fr : Nat × Nat} (hp : tmps.getD 4 undef = .pointer (some ⟨g, 0, none⟩)) (hg : w.heap[g]? = some (.cells cs t fr)) (hc : cs.size = 2) :
    (results Try.f9 tmps).run Try.prog w = .ok (.tuple #[.agg cs, tmps.getD 5 undef, tmps.getD 6 undef]) w :=
  res_cell_tmp2 (fn := Try.f9) rfl hp hg Try.underlying28 rfl (by rw [info28, hc])
theorem wid_ne {n : Int} (h : wid n = false) : n ≠ 1 ∧ n ≠ 2 ∧ n ≠ 4 ∧ n ≠ 8 := by
  unfold wid at h
  rw [decide_eq_false_iff_not] at h
  omega
set_option maxRecDepth 100000 in
set_option maxHeartbeats 4000000 in
theorem refWord_any (S : Nat → Prop) (A : Option Addr) (c : Nat) (b : List UInt8) (i : Nat) (n : Int) (w : World) (hr : Rep S w (.slice A b.length c) (byts b)) (hi : i ≤ b.length) (hb : b.length ≤ 1000) :
    Calls Try.prog 9 #[.agg #[.slice A b.length c, .int .i64 (i : Int)], .int .i64 n] w
      fun ev w' => ev = .returned (.tuple #[.agg #[.slice A b.length c, .int .i64 ((if wid n && tk b i n then tkI b i n else i : Nat) : Int)], .int .u64 ((if wid n && tk b i n then wv (tkB b i n) else 0 : Nat) : Int), .bool (wid n && tk b i n)]) ∧ Below w.heap.size w w' := by
  have HR := Lib.hid hr
  clear hr
  cases hw : wid n
  · obtain ⟨h1, h2, h4, h8⟩ := wid_ne hw
    have h1b : (n != 1) = true := by simp [h1]
    have h2b : (n != 2) = true := by simp [h2]
    have h4b : (n != 4) = true := by simp [h4]
    have h8b : (n != 8) = true := by simp [h8]
    clear h1 h2 h4 h8
    go_enter Try.func9, Try.ntmps9
    go_wp2
    exact bodyPost_ret (word_results rfl (new_block2 _ _ _) rfl) rfl ⟨rfl, bl_alloc (bl_alloc (bl_refl _) _) _⟩
  · have hn := wid_le hw
    have hcase : n = 1 ∨ n = 2 ∨ n = 4 ∨ n = 8 := by unfold wid at hw; rwa [decide_eq_true_iff] at hw
    have hl8 := tkB_len (b := b) (i := i) hw
    have HW := Lib.hid hw
    clear hw
    cases ht : tk b i n
    · have HT := Lib.hid ht
      clear ht
      rcases hcase with rfl | rfl | rfl | rfl <;>
      · go_enter Try.func9, Try.ntmps9
        go_wp2_with (go_at_call 7; go_must (refine (refTake_any S A c b i _ _ (HR.out.old (bl_alloc (bl_alloc (bl_refl _) _) _)) hi hb).mono ?_; rw [HT.out]; rintro e w2 ⟨v, rfl, ho, hbl⟩; have hy2 := (hbl.block (w.heap.size + 1) (by simp)).trans (new_block2 _ _ _); have hy1 := (hbl.block w.heap.size (by simp; omega)).trans (alloc_keep (new_block w (.cells #[.slice A b.length c, .int .i64 (i : Int)] 28)) _); have as0 := blk_cell hy1 0; have as1 := blk_cell hy1 1; simp only [List.getElem?_toArray, List.getElem?_cons_zero, List.getElem?_cons_succ] at as0 as1; have bs0 := blk_cell hy2 0; have bs1 := blk_cell hy2 1; have bz0 := blk_frozen hy2 0; have bz1 := blk_frozen hy2 1; simp only [List.getElem?_toArray, List.getElem?_cons_zero, List.getElem?_cons_succ] at bs0 bs1; have hg1 := blk_lt hy1; have hg2 := blk_lt hy2; have HY2 := Lib.hid hy2; have HBL := Lib.hid hbl; clear hy1 hy2 hbl))
        exact bodyPost_ret (word_results rfl (alloc_keep (blk_set2 HY2.out _ _) _) rfl) rfl ⟨rfl, bl_alloc (by (repeat (with_reducible refine bl_set ?_ (by first | exact Nat.le_refl _ | (simp; done) | (simp; omega)) _)); exact (bl_alloc (bl_alloc (bl_refl _) _) _).trans (HBL.out.mono (by simp; omega))) _⟩
    · have hlen : ((tkB b i n).length : Int) = n := by
        have h3 := ht
        unfold tk at h3
        rw [decide_eq_true_iff] at h3
        unfold tkB
        rw [if_pos ht, List.length_take, List.length_drop]
        omega
      have HT := Lib.hid ht
      have hwv : wv (tkB b i n) = wv ((tkB b i n).take (tkB b i n).length) := by rw [List.take_length]
      generalize hys : tkB b i n = ys at hl8 hwv hlen
      have HYS := Lib.hid hys
      have HWV := Lib.hid hwv
      clear ht hys hwv
      rcases hcase with rfl | rfl | rfl | rfl <;>
      · go_enter Try.func9, Try.ntmps9
        go_wp2_with (go_at_call 7; go_must (refine (refTake_any S A c b i _ _ (HR.out.old (bl_alloc (bl_alloc (bl_refl _) _) _)) hi hb).mono ?_; rw [HT.out, HYS.out]; rintro e w2 ⟨v, rfl, ho, hbl⟩; obtain ⟨A9, c9, rfl, hc9, _⟩ := ho.bytes_slice; obtain ⟨_, _, h9, _, _, hp⟩ := byts_parts ho.bytes_rep; cases h9; have HP := Lib.hid hp; clear hp ho; have hy2 := (hbl.block (w.heap.size + 1) (by simp)).trans (new_block2 _ _ _); have hy1 := (hbl.block w.heap.size (by simp; omega)).trans (alloc_keep (new_block w (.cells #[.slice A b.length c, .int .i64 (i : Int)] 28)) _); have as0 := blk_cell hy1 0; have as1 := blk_cell hy1 1; simp only [List.getElem?_toArray, List.getElem?_cons_zero, List.getElem?_cons_succ] at as0 as1; have bs0 := blk_cell hy2 0; have bs1 := blk_cell hy2 1; have bz0 := blk_frozen hy2 0; have bz1 := blk_frozen hy2 1; simp only [List.getElem?_toArray, List.getElem?_cons_zero, List.getElem?_cons_succ] at bs0 bs1; have hg1 := blk_lt hy1; have hg2 := blk_lt hy2; have HY2 := Lib.hid hy2; have HBL := Lib.hid hbl; clear hy1 hy2 hbl))
        go_loop [10, 11] (fun s t => ∃ j : Nat, j ≤ ys.length ∧ t = .int .i64 (j : Int) ∧ s = .int .u64 ((wv (ys.take j) : Nat) : Int)) (fun _ t => ys.length - (intOf t).toNat)
        case atStart => exact ⟨0, Nat.zero_le _, rfl, rfl⟩
        case round =>
          obtain ⟨j, hj, rfl, rfl⟩ := hrel
          by_cases hlt : j < ys.length
          · obtain ⟨ad, rfl, d0⟩ := HP.out j hlt
            have qd0 := World.block_lt_of_cell? w2 _ d0
            have hsm := wv_small ys j hj (by omega)
            have HC := Lib.hid (wv_take ys j hlt)
            have hx2 := UInt8.toNat_lt ys[j]
            go_wp2
            go_round
            case rel =>
              refine ⟨j + 1, by omega, by go_num, ?_⟩
              exact int_eq (by have := HC.out; omega)
            case measure => simp [intOf]; omega
          · have hje : j = ys.length := by omega
            subst hje
            go_wp2
            exact bodyPost_ret (word_results rfl (alloc_keep (blk_set2 HY2.out _ _) _) rfl) rfl ⟨rfl, bl_alloc (by (repeat (with_reducible refine bl_set ?_ (by first | exact Nat.le_refl _ | (simp; done) | (simp; omega)) _)); exact (bl_alloc (bl_alloc (bl_refl _) _) _).trans (HBL.out.mono (by simp; omega))) _⟩
end Go.Proofs.Ytgmnghnnlnohbaa
