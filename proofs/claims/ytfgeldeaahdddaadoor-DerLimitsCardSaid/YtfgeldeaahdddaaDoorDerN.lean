/- der.appended. -/
import Derived.Test.YtfgeldeaahdddaaDoorDerF
import Derived.Deep.DeepCutAuto
set_option linter.unusedVariables false
set_option linter.unusedSimpArgs false
namespace Go.Proofs.YtfgeldeaahdddaaDoor
open Go.RowKit Lx

/-- A call that appends bytes to a row of the caller's: what is left. -/
def Appended (B : Nat) (w w' : World) (out : Value) (e : Ending) (xs ys : List UInt8) : Prop :=
  ∃ v, e = .returned v ∧ Own (fun _ => False) w' B 5 v 1 ((xs ++ ys).map byteCell) ∧ w.grownBy w' out.ownBlock ∧ (v.ownBlock = out.ownBlock ∨ ∃ k, v.ownBlock = some k ∧ w.heap.size ≤ k)
def AppSaid (m : Nat) : Prop := ∀ (n : Tre) (S : Nat → Prop) (v : Value) (B : Nat) (out : Value) (xs : List UInt8) (w : World), n.depth ≤ m → xs.length + n.text.length ≤ 10000000 → TreV S w v n → B ≤ w.heap.size →
    Own (fun _ => False) w B 5 out 1 (xs.map byteCell) → (∀ k, S k → some k ≠ out.ownBlock) →
    Calls Tryd.prog 27 #[out, v] w fun e w' => Appended B w w' out e xs n.text
/-- The bytes of a number from byte i on down. -/
def low (s : Nat) : Nat → List UInt8
  | 0 => []
  | i + 1 => UInt8.ofNat (s / 256 ^ i % 256) :: low s i
theorem low_snoc (s : Nat) : ∀ k, low s (k + 1) = low (s / 256) k ++ [UInt8.ofNat (s % 256)]
  | 0 => by simp [low]
  | k + 1 => by
    rw [low, low_snoc s k, low]
    rw [List.cons_append]
    congr 3
    rw [Nat.div_div_eq_div_mul, Nat.pow_succ, Nat.mul_comm]
theorem num_low (s : Nat) : num s = low s (num s).length := by
  suffices h : ∀ k s, (num s).length = k → num s = low s k from h _ s rfl
  intro k
  induction k with
  | zero => intro s h; exact List.eq_nil_of_length_eq_zero h
  | succ k ih =>
    intro s h
    by_cases h0 : s = 0
    · subst h0; rw [num_zero] at h; simp at h
    · rw [num_pos s (by omega)] at h ⊢
      rw [low_snoc, ← ih (s / 256) (by simpa using h)]
theorem gr_step {w W w1 : World} {r r' : Option Nat} (h : w.grownBy W r) (hg : W.grownBy w1 r') (hr : r' = r ∨ ∃ k, r' = some k ∧ w.heap.size ≤ k) : w.grownBy w1 r :=
  ⟨hg.os.trans h.os, hg.tape.trans h.tape, hg.output.trans h.output, Nat.le_trans h.size hg.size, fun k hk hne => (hg.block k (Nat.lt_of_lt_of_le hk h.size) (fun e => by
    rcases hr with hr | ⟨j, hj, hw⟩
    · exact hne (by rw [e, hr])
    · rw [hj] at e; injection e with e; omega)).trans (h.block k hk hne)⟩
/-- The row that is appended to, and bytes that lie beside it. -/
structure OutR (w : World) (B : Nat) (out : Value) (xs : List UInt8) (W : World) (ct : Value) (cts : List UInt8) (o : Value) (ys : List UInt8) : Prop where
  own : Own (fun _ => False) W B 5 o 1 ((xs ++ ys).map byteCell)
  gr : w.grownBy W out.ownBlock
  at_ : o.ownBlock = out.ownBlock ∨ ∃ k, o.ownBlock = some k ∧ w.heap.size ≤ k
  rep : Rep (fun k => some k ≠ o.ownBlock) W ct (byts cts)
theorem OutR.step {w : World} {B : Nat} {out : Value} {xs : List UInt8} {W : World} {ct : Value} {cts : List UInt8} {o : Value} {ys : List UInt8} (H : OutR w B out xs W ct cts o ys) {w0 w1 : World} {o1 : Value} {zs : List UInt8} (h0 : Below W.heap.size W w0)
    (h1 : Own (fun _ => False) w1 B 5 o1 1 (((xs ++ ys) ++ zs).map byteCell)) (hg : w0.grownBy w1 o.ownBlock) (hat : o1.ownBlock = o.ownBlock ∨ o1.ownBlock = some w0.heap.size) : OutR w B out xs w1 ct cts o1 (ys ++ zs) := by
  have hws := H.gr.size
  have h0s := h0.size
  refine ⟨by rw [← List.append_assoc]; exact h1, gr_step (gr_below H.gr h0) hg H.at_, ?_, ?_⟩
  · rcases hat with h | h
    · rw [h]; exact H.at_
    · exact .inr ⟨_, h, by omega⟩
  · refine H.rep.move' fun k hk hl => ⟨?_, (hg.block k (by omega) hk).trans (h0.block k hl)⟩
    rcases hat with h | h
    · rw [h]; exact hk
    · rw [h]; intro e; injection e with e; omega

set_option maxRecDepth 100000 in
set_option maxHeartbeats 4000000 in
theorem app_calls (m : Nat) : AppSaid m := by
  induction m with
  | zero => intro n S v B out xs w h; have := Tre.depth_eq n; omega
  | succ m ih =>
    intro n S v B out xs w hd hlen hv hB hown hS
    have hv' := hv.mono (S' := fun k => S k ∧ k < w.heap.size) (fun k h1 h2 => ⟨h1, h2⟩)
    obtain ⟨A1, c1, A, c, rfl, hc1, hc, hBs, hK⟩ := hv'
    obtain ⟨A', c', he, _, hlm, hat⟩ := kids_parts hK
    cases he
    have HAT := Lib.hid hat
    have HT := Lib.hid (Tre.text_eq n)
    have htl : n.text.length = 1 + (lenEnc (n.bs ++ Tre.textL n.kids).length).length + (n.bs ++ Tre.textL n.kids).length := by rw [HT.out]; simp; omega
    have hbl : n.bs.length + (Tre.textL n.kids).length = (n.bs ++ Tre.textL n.kids).length := by rw [List.length_append]
    have hb1 : n.bs.length ≤ 10000000 := by omega
    have HD := Lib.hid hd
    have HBs := Lib.hid hBs; have Hown := Lib.hid hown; clear hBs hown
    clear hK hat hd hv
    go_enter Tryd.func27, Tryd.ntmps27
    go_wp2_with (go_at_call 39; go_must (refine (Clone_any _ A1 c1 n.bs _ (HBs.out.old (bl_alloc (bl_refl _) _)) (by omega)).mono ?_; rintro e9 w3 ⟨v, rfl, ho, hbl3⟩; have hx3 := (hbl3.block w.heap.size (by simp)).trans (new_block w _); have hov := ho.bytes_slice; obtain ⟨A9, c9, rfl, hc9, _⟩ := hov; have x0 := blk_cell hx3 0; have x1 := blk_cell hx3 1; have x2 := blk_cell hx3 2; simp only [List.getElem?_toArray, List.getElem?_cons_zero, List.getElem?_cons_succ] at x0 x1 x2; have hlx := blk_lt hx3; have hb3 := bl_then (bl_alloc (bl_refl w) _) hbl3; have Hx3 := Lib.hid hx3; have Hbl3 := Lib.hid hbl3; have Hb3 := Lib.hid hb3; have Ho := Lib.hid ho; clear hx3 hbl3 hb3 ho))
    clear x0 x1
    go_loopw [5, 16] (fun ct i wr => ∃ (k : Nat) (Ac : Option Addr) (nc cc : Nat), k ≤ n.kids.length ∧ i = .int .i64 (k : Int) ∧ ct = .slice Ac nc cc ∧ Own (fun _ => False) wr (w.heap.size + 1) 5 (.slice Ac nc cc) 1 ((n.bs ++ Tre.textL (n.kids.take k)).map byteCell)
        ∧ Below w.heap.size w wr ∧ wr.heap[w.heap.size]? = some (.cells #[.int .u8 (n.tag.toNat : Int), .slice A1 n.bs.length c1, .slice A n.kids.length c] 26 (0, 0))) (fun _ i _ => n.kids.length - (intOf i).toNat)
    case atStart => exact ⟨0, A9, n.bs.length, c9, Nat.zero_le _, rfl, rfl, by simpa [Tre.textL] using Ho.out, Hb3.out, Hx3.out⟩
    case round =>
      obtain ⟨k, Ac, nc, cc, hk, rfl, rfl, hoc, hb, hx⟩ := hrel
      by_cases hlt : k < n.kids.length
      · obtain ⟨ad, A1', c1', A2', c2', rfl, e0, e1, e2, l1, l2, r1, r2⟩ := HAT.out k hlt
        have d0 := cell_move (hb.block _ (World.block_lt_of_cell? w _ e0)) e0
        have d1 := cell_move (hb.block _ (World.block_lt_of_cell? w _ e1)) e1
        have d2 := cell_move (hb.block _ (World.block_lt_of_cell? w _ e2)) e2
        obtain ⟨s1, s2⟩ := Tre.textL_step n.kids k hlt
        have s3 : (Tre.textL (n.kids.take (k + 1))).length = (Tre.textL (n.kids.take k)).length + (n.kids[k]).text.length := by rw [s1, List.length_append]
        have hkd : (n.kids[k]).depth ≤ m := by have := Tre.depth_kid n k hlt; have := HD.out; omega
        have hgx := blk_lt hx
        have hws := hb.size
        have V1 := Lib.hid (show TreV (fun k => S k ∧ k < w.heap.size) w _ (n.kids[k]) from ⟨A1', c1', A2', c2', rfl, l1, l2, r1, r2⟩)
        have Hoc := Lib.hid hoc; have Hb := Lib.hid hb; have Hx := Lib.hid hx; have S1 := Lib.hid s1; clear hoc hb hx s1
        clear e0 e1 e2 r1 r2
        go_wp2_with (go_at_call 27; go_must (refine (ih (n.kids[k]) _ _ (w.heap.size + 1) _ (n.bs ++ Tre.textL (n.kids.take k)) _ hkd (by rw [List.length_append]; omega) (V1.out.old (bl_alloc Hb.out _)) (by simp; omega) (Hoc.out.below (bl_alloc (bl_refl _) _)) (fun k h e => by have := (Hoc.out.lt _ e.symm).1; omega)).mono ?_; rintro e9 w4 ⟨v, rfl, ho4, hg4, hat4⟩; have hov := ho4.bytes_slice; obtain ⟨A4, c4, rfl, hc4, _⟩ := hov; have Ho4 := Lib.hid ho4; have Hg4 := Lib.hid hg4; clear ho4 hg4))
        go_roundw
        case rel =>
          refine ⟨k + 1, A4, _, c4, by omega, by go_num, rfl, ?_, bl_grown (bl_alloc Hb.out _) Hg4.out (fun k e => by have := (Hoc.out.lt _ e).1; omega), ?_⟩
          · have := Ho4.out
            rw [List.length_append, List.length_append, Nat.add_assoc] at this
            rw [S1.out, ← List.append_assoc]
            exact this
          · exact (Hg4.out.block _ (blk_lt (alloc_keep Hx.out _)) (fun e => by have := (Hoc.out.lt _ e.symm).1; omega)).trans (alloc_keep Hx.out _)
        case measure => simp [intOf]; omega
      · have hke : k = n.kids.length := by omega
        rw [hke, List.take_length] at hoc
        have h0 : OutR w B out xs wr (.slice Ac nc cc) (n.bs ++ Tre.textL n.kids) out [] := ⟨by rw [List.append_nil]; exact Hown.out.below hb, gr_below (gr_refl _ _) hb, .inl rfl, hoc.bytes_rep.mono fun k (hk : w.heap.size + 1 ≤ k) _ e => by have := (Hown.out.lt _ e.symm).2; omega⟩
        generalize n.bs ++ Tre.textL n.kids = cts at *
        obtain ⟨_, _, he, _⟩ := hoc.bytes_slice
        cases he
        have hws := hb.size
        have x0 := blk_cell hx 0; have x1 := blk_cell hx 1; have x2 := blk_cell hx 2; simp only [List.getElem?_toArray, List.getElem?_cons_zero, List.getElem?_cons_succ] at x0 x1 x2
        have hgx := blk_lt hx
        have Hoc := Lib.hid hoc; have H0 := Lib.hid h0; have Hx := Lib.hid hx; have Hb := Lib.hid hb; clear hoc h0 hx hb
        clear hke x1 x2 hlx
        go_upto_region 8 with (at_builtin; go_must (refine wp_append_bytes (B := B) rfl _ _ rfl Tryd.underlying22 info5 _ (xs ++ []) [n.tag] _ rfl rfl (H0.out.own.below (bl_alloc (bl_refl _) _)) (own_lit_bytes' [n.tag] rfl (Nat.le_refl _) rfl (by simp) rfl).bytes_rep ?hB ?hlen ?_; (case hB => simp; omega); (case hlen => simp; omega); intro v1 w5 ho1 hbl1 hg1 hat1; have h1 := H0.out.step (bl_alloc (bl_refl _) _) ho1 hg1 hat1; have H1 := Lib.hid h1; clear h1; clear ho1 hbl1 hg1 hat1))
        by_cases h128 : cts.length < 128
        · have hl128 : ((cts.length : Nat) : Int) < 128 := by omega
          go_upto_region 16 with (at_builtin; go_must (refine wp_append_bytes (B := B) rfl _ _ rfl Tryd.underlying22 info5 _ (xs ++ ([] ++ [n.tag])) [UInt8.ofNat cts.length] _ rfl rfl (H1.out.own.below (bl_alloc (bl_refl _) _)) (own_lit_bytes' [UInt8.ofNat cts.length] rfl (Nat.le_refl _) rfl (by simp) (by simp; omega)).bytes_rep ?hB ?hlen ?_; (case hB => have := H1.out.gr.size; simp; omega); (case hlen => simp; omega); intro v2 w6 ho1 hbl1 hg1 hat1; have h2 := H1.out.step (bl_alloc (bl_refl _) _) ho1 hg1 hat1; have H2 := Lib.hid h2; clear h2; clear ho1 hbl1 hg1 hat1))
          go_wp2_with (at_builtin; go_must (refine wp_append_bytes (B := B) rfl _ _ rfl Tryd.underlying22 info5 _ (xs ++ ([] ++ [n.tag] ++ [UInt8.ofNat cts.length])) cts _ rfl rfl H2.out.own H2.out.rep ?hB ?hlen ?_; (case hB => have := H2.out.gr.size; omega); (case hlen => simp; omega); intro v3 w7 ho1 hbl1 hg1 hat1; have h3 := H2.out.step (bl_refl _) ho1 hg1 hat1; have H3 := Lib.hid h3; clear h3; clear ho1 hbl1 hg1 hat1))
          go_ret
          refine ⟨_, rfl, ?_, H3.out.gr, H3.out.at_⟩
          have := H3.out.own
          rw [HT.out, lenEnc, if_pos h128]
          exact this
        · have hsb : cts.length ≤ 10000000 := by omega
          have hnl := num_len3 cts.length (by omega)
          generalize hk9 : (num cts.length).length = k9 at hnl
          have hlow := num_low cts.length
          rw [hk9] at hlow
          have hpw := width_any cts.length
          rw [hk9] at hpw
          have Hk9 := Lib.hid hk9; have Hlow := Lib.hid hlow; have Hpw := Lib.hid hpw; clear hk9 hlow hpw
          have h128k : 0 ≤ 128 + (k9 : Int) ∧ 128 + (k9 : Int) ≤ 131 := by omega
          go_upto_region 12 with (first | (go_at_call 42; go_must (refine (Hpw.out _ (by omega)).mono ?_; rintro e w9 ⟨rfl, rfl⟩)) | (at_builtin; go_must (refine wp_append_bytes (B := B) rfl _ _ rfl Tryd.underlying22 info5 _ (xs ++ ([] ++ [n.tag])) [UInt8.ofNat (128 + k9)] _ rfl rfl (H1.out.own.below (bl_alloc (bl_refl _) _)) (own_lit_bytes' [UInt8.ofNat (128 + k9)] rfl (Nat.le_refl _) rfl (by simp) (by simp; omega)).bytes_rep ?hB ?hlen ?_; (case hB => have := H1.out.gr.size; simp; omega); (case hlen => simp; omega); intro v2 w6 ho1 hbl1 hg1 hat1; have h2 := H1.out.step (bl_alloc (bl_refl _) _) ho1 hg1 hat1; have H2 := Lib.hid h2; clear h2; clear ho1 hbl1 hg1 hat1)))
          go_wp2
          go_loopw [0, 9] (fun o t wq => ∃ (j : Nat) (pre : List UInt8), j ≤ k9 ∧ t = .int .i64 ((j : Int) - 1) ∧ num cts.length = pre ++ low cts.length j ∧ OutR w B out xs wq (.slice Ac cts.length cc) cts o ([] ++ [n.tag] ++ [UInt8.ofNat (128 + k9)] ++ pre)) (fun _ t _ => (intOf t + 1).toNat)
          case atStart => exact ⟨k9, [], Nat.le_refl _, rfl, Hlow.out, by rw [List.append_nil]; exact H2.out⟩
          case round =>
            obtain ⟨j, pre, hj, rfl, hpre, h3⟩ := hrel
            have hpl : pre.length ≤ 3 := by have := congrArg List.length hpre; rw [List.length_append, Hk9.out] at this; omega
            have hws3 := h3.gr.size
            have Hpre := Lib.hid hpre; have H3 := Lib.hid h3; clear hpre h3
            cases j with
            | succ i =>
              have hnx : num cts.length = (pre ++ [UInt8.ofNat (cts.length / 256 ^ i % 256)]) ++ low cts.length i := by rw [Hpre.out, low, List.append_assoc]; rfl
              have HNX := Lib.hid hnx
              clear hnx
              obtain rfl | rfl | rfl : i = 0 ∨ i = 1 ∨ i = 2 := by omega
              · go_wp2_with (at_builtin; go_must (refine wp_append_bytes (B := B) rfl _ _ rfl Tryd.underlying22 info5 _ (xs ++ ([] ++ [n.tag] ++ [UInt8.ofNat (128 + k9)] ++ pre)) [UInt8.ofNat (cts.length / 256 ^ 0 % 256)] _ rfl rfl (H3.out.own.below (bl_alloc (bl_refl _) _)) (own_lit_bytes' [UInt8.ofNat (cts.length / 256 ^ 0 % 256)] rfl (Nat.le_refl _) rfl (by simp) (by simp <;> omega)).bytes_rep ?hB ?hlen ?_; (case hB => simp; omega); (case hlen => simp; omega); intro v4 w7 ho1 hbl1 hg1 hat1; have h4 := H3.out.step (bl_alloc (bl_refl _) _) ho1 hg1 hat1; have H4 := Lib.hid h4; clear h4; clear ho1 hbl1 hg1 hat1))
                go_roundw
                case rel => exact ⟨0, pre ++ [UInt8.ofNat (cts.length / 256 ^ 0 % 256)], by omega, rfl, HNX.out, by rw [← List.append_assoc]; exact H4.out⟩
                case measure => simp [intOf]
              · go_wp2_with (at_builtin; go_must (refine wp_append_bytes (B := B) rfl _ _ rfl Tryd.underlying22 info5 _ (xs ++ ([] ++ [n.tag] ++ [UInt8.ofNat (128 + k9)] ++ pre)) [UInt8.ofNat (cts.length / 256 ^ 1 % 256)] _ rfl rfl (H3.out.own.below (bl_alloc (bl_refl _) _)) (own_lit_bytes' [UInt8.ofNat (cts.length / 256 ^ 1 % 256)] rfl (Nat.le_refl _) rfl (by simp) (by simp <;> omega)).bytes_rep ?hB ?hlen ?_; (case hB => simp; omega); (case hlen => simp; omega); intro v4 w7 ho1 hbl1 hg1 hat1; have h4 := H3.out.step (bl_alloc (bl_refl _) _) ho1 hg1 hat1; have H4 := Lib.hid h4; clear h4; clear ho1 hbl1 hg1 hat1))
                go_roundw
                case rel => exact ⟨1, pre ++ [UInt8.ofNat (cts.length / 256 ^ 1 % 256)], by omega, rfl, HNX.out, by rw [← List.append_assoc]; exact H4.out⟩
                case measure => simp [intOf]
              · go_wp2_with (at_builtin; go_must (refine wp_append_bytes (B := B) rfl _ _ rfl Tryd.underlying22 info5 _ (xs ++ ([] ++ [n.tag] ++ [UInt8.ofNat (128 + k9)] ++ pre)) [UInt8.ofNat (cts.length / 256 ^ 2 % 256)] _ rfl rfl (H3.out.own.below (bl_alloc (bl_refl _) _)) (own_lit_bytes' [UInt8.ofNat (cts.length / 256 ^ 2 % 256)] rfl (Nat.le_refl _) rfl (by simp) (by simp <;> omega)).bytes_rep ?hB ?hlen ?_; (case hB => simp; omega); (case hlen => simp; omega); intro v4 w7 ho1 hbl1 hg1 hat1; have h4 := H3.out.step (bl_alloc (bl_refl _) _) ho1 hg1 hat1; have H4 := Lib.hid h4; clear h4; clear ho1 hbl1 hg1 hat1))
                go_roundw
                case rel => exact ⟨2, pre ++ [UInt8.ofNat (cts.length / 256 ^ 2 % 256)], by omega, rfl, HNX.out, by rw [← List.append_assoc]; exact H4.out⟩
                case measure => simp [intOf]
            | zero =>
              have hpre2 : num cts.length = pre := by have := Hpre.out; rwa [low, List.append_nil] at this
              have Hpre2 := Lib.hid hpre2; clear hpre2
              go_wp2_with (at_builtin; go_must (refine wp_append_bytes (B := B) rfl _ _ rfl Tryd.underlying22 info5 _ (xs ++ ([] ++ [n.tag] ++ [UInt8.ofNat (128 + k9)] ++ pre)) cts _ rfl rfl H3.out.own H3.out.rep ?hB ?hlen ?_; (case hB => omega); (case hlen => simp; omega); intro v3 w7 ho1 hbl1 hg1 hat1; have h4 := H3.out.step (bl_refl _) ho1 hg1 hat1; have H4 := Lib.hid h4; clear h4; clear ho1 hbl1 hg1 hat1))
              go_ret
              refine ⟨_, rfl, ?_, H4.out.gr, H4.out.at_⟩
              have := H4.out.own
              rw [HT.out, lenEnc, if_neg h128, Hk9.out, Hpre2.out]
              simpa using this
end Go.Proofs.YtfgeldeaahdddaaDoor
