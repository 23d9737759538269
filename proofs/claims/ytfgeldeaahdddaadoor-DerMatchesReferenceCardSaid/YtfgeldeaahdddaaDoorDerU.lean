/- DerMatchesReference: the walk. -/
import Derived.Test.YtfgeldeaahdddaaDoorDerT
import Derived.Test.YtfgeldeaahdddaaDoorDerJ
set_option linter.unusedVariables false
set_option linter.unusedSimpArgs false
namespace Go.Proofs.YtfgeldeaahdddaaDoor
open Go.RowKit Lx

theorem plen_at (b : List UInt8) (i e : Nat) (h : i ≤ e) : (plen b i e).at_ ≤ e := by
  unfold plen
  repeat' split
  all_goals (simp only; omega)
theorem ploop_at (f : Nat → PR) (t : UInt8) (stop : Nat) (hf : ∀ x, x < stop → (f x).at_ ≤ stop) : ∀ (k next : Nat) (acc : List Tre), (ploop f t stop k next acc).at_ ≤ stop
  | 0, next, acc => by simp [ploop, PR.err]
  | k + 1, next, acc => by
    rw [ploop]
    split
    · rename_i h
      split
      · exact hf next h
      · exact ploop_at f t stop hf k _ _
    · exact Nat.zero_le _
theorem pread_at : ∀ (d : Nat) (b : List UInt8) (i e : Nat), e ≤ b.length → i ≤ e → (pread d b i e).at_ ≤ e
  | 0, b, i, e, _, h => by
    unfold pread
    split
    · simp [PR.err]
    · split <;> (simp only [PR.err]; omega)
  | d + 1, b, i, e, he, h => by
    unfold pread
    by_cases c1 : e ≤ i
    · rw [if_pos c1]; simp [PR.err]
    rw [if_neg c1]
    by_cases c2 : tagOk (b.getD i 0) = false
    · rw [if_pos c2]; simp only [PR.err]; omega
    rw [if_neg c2]
    by_cases c3 : (plen b (i + 1) e).code ≠ 0
    · rw [if_pos c3]; exact plen_at b (i + 1) e (by omega)
    rw [if_neg c3]
    by_cases c4 : e < (plen b (i + 1) e).next + (plen b (i + 1) e).len
    · rw [if_pos c4]; simp [PR.err]
    rw [if_neg c4]
    split
    · exact Nat.zero_le _
    · have := ploop_at (fun x => pread d b x ((plen b (i + 1) e).next + (plen b (i + 1) e).len)) (b.getD i 0) ((plen b (i + 1) e).next + (plen b (i + 1) e).len) (fun x hx => pread_at d b x _ (by omega) (by omega)) ((plen b (i + 1) e).len + 1) (plen b (i + 1) e).next []
      omega
theorem pparse_at (b : List UInt8) : (pparse b).at_ ≤ b.length + 1048576 := by
  unfold pparse
  split
  · simp only [PR.err]; omega
  · split
    · rename_i h
      have h2 := h.2
      simp only [PR.err]; omega
    · have := pread_at 8 b 0 b.length (Nat.le_refl _) (Nat.zero_le _)
      omega
theorem pparse_err (b : List UInt8) (h : (pparse b).code ≠ 0) : pparse b = .err (pparse b).code (pparse b).at_ := by
  unfold pparse at h ⊢
  by_cases c1 : 1048576 < b.length
  · rw [if_pos c1]; rfl
  rw [if_neg c1] at h ⊢
  by_cases c2 : (pread 8 b 0 b.length).code = 0 ∧ (pread 8 b 0 b.length).next < b.length
  · rw [if_pos c2]; rfl
  rw [if_neg c2] at h ⊢
  exact pread_err 8 b 0 b.length h
theorem pparse_valid (b : List UInt8) (h : (pparse b).code = 0) : validB (pparse b).node = true ∧ (pparse b).node.text = b := by
  obtain ⟨h1, h2, h3, h4⟩ := pparse_ok b h
  refine ⟨?_, h1⟩
  unfold validB
  rw [h1, h2]
  simp
  omega
theorem ResV_parts {S : Nat → Prop} {w : World} {v : Value} {n : Tre} {x c a : Nat} (h : ResV S w v ⟨n, x, c, a⟩) : ∃ A1 c1 A2 c2, v = .agg #[.int .u8 (n.tag.toNat : Int), .slice A1 n.bs.length c1, .slice A2 n.kids.length c2, .int .i64 (x : Int), .int .i64 (c : Int), .int .i64 (a : Int)]
    ∧ TreV S w (.agg #[.int .u8 (n.tag.toNat : Int), .slice A1 n.bs.length c1, .slice A2 n.kids.length c2]) n := by
  obtain ⟨A1, c1, A2, c2, rfl, h1, h2, h3, h4⟩ := h
  exact ⟨A1, c1, A2, c2, rfl, A1, c1, A2, c2, rfl, h1, h2, h3, h4⟩

set_option maxRecDepth 100000 in
set_option maxHeartbeats 8000000 in
theorem matches_calls (S : Nat → Prop) (A : Option Addr) (c : Nat) (b : List UInt8) (w : World) (hg : Laid w) (hr : Rep S w (.slice A b.length c) (byts b)) :
    Calls Tryd.prog 3 #[.slice A b.length c] w fun e w' => e = .returned (.bool true) ∧ Below w.heap.size w w' := by
  have HG := Lib.hid hg
  have HR := Lib.hid (hr.mono (S' := fun k => S k ∧ k < w.heap.size) fun _ h1 h2 => ⟨h1, h2⟩)
  clear hr hg
  by_cases c1 : 3000 < b.length
  · go_enter Tryd.func3, Tryd.ntmps3
    go_wp2_with fail
    refine (awake_any w HG.out).mono ?_
    rintro e w1 ⟨rfl, hb1⟩
    have HB1 := Lib.hid hb1
    clear hb1
    go_wp2_with fail
    refine (awake_any w1 (HG.out.move HB1.out)).mono ?_
    rintro e w2 ⟨rfl, hb2⟩
    have HB2 := Lib.hid (bl_then HB1.out hb2)
    clear hb2
    go_wp2
    go_ret
    exact ⟨rfl, HB2.out⟩
  · have hat := pparse_at b
    have herr := pparse_err b
    have hok := pparse_valid b
    have hP := fun (S : Nat → Prop) (W : World) (h : Rep S W (.slice A b.length c) (byts b)) => Parse_any S A c b W h (by omega)
    have hQ := fun (S : Nat → Prop) (W : World) (h : Rep S W (.slice A b.length c) (byts b)) => refParse_any S A c b W h (by omega)
    generalize pparse b = r at hat herr hok hP hQ
    have HP := Lib.hid hP; have HQ := Lib.hid hQ; clear hP hQ
    by_cases h0 : r.code = 0
    · obtain ⟨hv, ht⟩ := hok h0
      have h0b : (((r.code : Nat) : Int) != 0) = false := by simp [h0]
      obtain ⟨n, nx, cd, a⟩ := r
      dsimp only at h0 hv ht h0b
      subst h0
      have hE := fun (S : Nat → Prop) (v : Value) (W : World) (h : TreV S W v n) => Encode_yes n S v W hv h
      rw [ht] at hE
      have HE := Lib.hid hE; clear hE
      clear herr hok hat ht hv h0b
      go_enter Tryd.func3, Tryd.ntmps3
      go_wp2_with fail
      refine (awake_any w HG.out).mono ?_
      rintro e w1 ⟨rfl, hb1⟩
      have HB1 := Lib.hid hb1
      clear hb1
      go_wp2_with fail
      refine (HP.out _ _ (HR.out.old HB1.out)).mono ?_
      rintro e w2 ⟨v, rfl, hn2, hb2⟩
      have HB2 := Lib.hid (bl_then HB1.out hb2)
      have hno := NodeE_ok hn2
      obtain ⟨u2, rfl, hu2⟩ := hno
      have HU2 := Lib.hid hu2
      obtain ⟨B1, k1, B2, k2, rfl, hk1, hk2, _, _⟩ := hu2
      clear hn2 hb2
      go_wp2_with fail
      refine (HQ.out _ _ (HR.out.old (bl_alloc HB2.out _))).mono ?_
      rintro e w3 ⟨v, rfl, hn3, hb3⟩
      have hno := ResV_parts hn3
      obtain ⟨B3, k3, B4, k4, rfl, hu3⟩ := hno
      have HU3 := Lib.hid hu3
      have HU23 := Lib.hid (HU2.out.old ((bl_alloc (bl_refl w2) _).trans (hb3.mono (by simp))))
      have hx := (hb3.block w2.heap.size (by simp)).trans (new_block w2 _)
      have HB3 := Lib.hid (bl_then (bl_alloc HB2.out _) hb3)
      have x0 := blk_cell hx 0; have x1 := blk_cell hx 1; have x2 := blk_cell hx 2; simp only [List.getElem?_toArray, List.getElem?_cons_zero, List.getElem?_cons_succ] at x0 x1 x2
      have hlx := blk_lt hx
      have Hx := Lib.hid hx; clear hx
      clear hn3 hu3 hb3
      go_wp2_with fail
      refine (HE.out _ _ _ (HU23.out.old (bl_alloc (bl_refl _) _))).mono ?_
      rintro e w4 ⟨v4, rfl, ho4, hb4⟩
      have hov := ho4.bytes_slice
      obtain ⟨B5, k5, rfl, _, _⟩ := hov
      have hb34 := (bl_alloc (bl_refl w3) _).trans (hb4.mono (by simp))
      have hx4 := (hb34.block w2.heap.size hlx).trans Hx.out
      have hy4 := (hb4.block w3.heap.size (by simp)).trans (new_block w3 _)
      have HU34 := Lib.hid (HU3.out.old hb34)
      have HU24 := Lib.hid (HU23.out.old hb34)
      have HR4 := Lib.hid ho4.bytes_rep
      have HB4 := Lib.hid (bl_then (bl_alloc HB3.out _) hb4)
      clear x0 x1 x2 hb34 ho4 hb4
      have x0 := blk_cell hx4 0; have x1 := blk_cell hx4 1; have x2 := blk_cell hx4 2; simp only [List.getElem?_toArray, List.getElem?_cons_zero, List.getElem?_cons_succ] at x0 x1 x2
      have y0 := blk_cell hy4 0; have y1 := blk_cell hy4 1; have y2 := blk_cell hy4 2; have y3 := blk_cell hy4 3; have y4 := blk_cell hy4 4; have y5 := blk_cell hy4 5; simp only [List.getElem?_toArray, List.getElem?_cons_zero, List.getElem?_cons_succ] at y0 y1 y2 y3 y4 y5
      have hlx4 := blk_lt hx4
      have hly4 := blk_lt hy4
      have Hx4 := Lib.hid hx4; have Hy4 := Lib.hid hy4; clear hx4 hy4
      go_wp2_with fail
      refine (lawSame_calls n.depth n n _ _ _ _ w4 (Nat.le_refl _) HU24.out HU34.out).mono ?_
      rw [(eqT_iff n n).2 rfl]
      rintro e w5 ⟨rfl, hb5⟩
      have HB5 := Lib.hid (bl_then HB4.out hb5)
      have HR5 := Lib.hid (HR4.out.old hb5)
      clear hb5
      go_wp2_with fail
      refine (Same01_any _ _ _ _ b b w5 HR5.out (HR.out.old HB5.out)).mono ?_
      rw [show decide (b = b) = true by simp]
      rintro e w6 ⟨rfl, n6, rfl⟩
      go_wp2
      go_ret
      exact ⟨rfl, bl_drewN HB5.out _⟩
    · have h0b : (((r.code : Nat) : Int) != 0) = true := by simp [h0]
      have he := herr h0
      generalize hcc : r.code = cd at h0 h0b he
      generalize haa : r.at_ = a at hat he
      subst he
      have H0 := Lib.hid h0
      clear herr hok hcc haa h0
      go_enter Tryd.func3, Tryd.ntmps3
      go_wp2_with fail
      refine (awake_any w HG.out).mono ?_
      rintro e w1 ⟨rfl, hb1⟩
      have HB1 := Lib.hid hb1
      clear hb1
      go_wp2_with fail
      refine (HP.out _ _ (HR.out.old HB1.out)).mono ?_
      rintro e w2 ⟨v, rfl, hn2, hb2⟩
      have HB2 := Lib.hid (bl_then HB1.out hb2)
      have hno := NodeE_no H0.out hn2
      obtain ⟨u2, rfl, hu2⟩ := hno
      have HU2 := Lib.hid hu2
      obtain ⟨B1, k1, B2, k2, rfl, hk1, hk2, _, _⟩ := hu2
      clear hn2 hb2
      go_wp2_with fail
      refine (HQ.out _ _ (HR.out.old (bl_alloc HB2.out _))).mono ?_
      rintro e w3 ⟨v, rfl, hn3, hb3⟩
      have hno := ResV_parts hn3
      obtain ⟨B3, k3, B4, k4, rfl, hu3⟩ := hno
      have HU23 := Lib.hid (HU2.out.old ((bl_alloc (bl_refl w2) _).trans (hb3.mono (by simp))))
      have hx := (hb3.block w2.heap.size (by simp)).trans (new_block w2 _)
      have HB3 := Lib.hid (bl_then (bl_alloc HB2.out _) hb3)
      have x0 := blk_cell hx 0; have x1 := blk_cell hx 1; have x2 := blk_cell hx 2; simp only [List.getElem?_toArray, List.getElem?_cons_zero, List.getElem?_cons_succ] at x0 x1 x2
      have hlx := blk_lt hx
      have Hx := Lib.hid hx; clear hx
      clear hn3 hu3 hb3
      go_wp2_with fail
      refine (told_yes (cd : Int) (a : Int) _ (HG.out.move (bl_alloc HB3.out _)) (by omega) (by omega)).mono ?_
      rintro e w4 ⟨rfl, hb4⟩
      have hb34 := (bl_alloc (bl_refl w3) _).trans (hb4.mono (by simp))
      have hx4 := (hb34.block w2.heap.size hlx).trans Hx.out
      have HU24 := Lib.hid (HU23.out.old hb34)
      have HB4 := Lib.hid (bl_then (bl_alloc HB3.out _) hb4)
      clear x0 x1 x2 hb34 hb4
      have x0 := blk_cell hx4 0; have x1 := blk_cell hx4 1; have x2 := blk_cell hx4 2; simp only [List.getElem?_toArray, List.getElem?_cons_zero, List.getElem?_cons_succ] at x0 x1 x2
      clear hx4
      go_wp2_with fail
      refine (lawSame_calls 1 zT zT _ (fun _ => True) _ _ w4 (by decide) HU24.out (zT_rep _ _)).mono ?_
      rw [(eqT_iff zT zT).2 rfl]
      rintro e w5 ⟨rfl, hb5⟩
      go_wp2
      go_ret
      exact ⟨rfl, bl_then HB4.out hb5⟩
end Go.Proofs.YtfgeldeaahdddaaDoor
