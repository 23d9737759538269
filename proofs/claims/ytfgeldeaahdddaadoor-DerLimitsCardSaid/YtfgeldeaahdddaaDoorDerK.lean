/- What is encoded is read again: a simple node. No program's step in sight. -/
import Derived.Test.YtfgeldeaahdddaaDoorDerO
import Derived.Laws.OwnMore
set_option linter.unusedVariables false
set_option linter.unusedSimpArgs false
namespace Go.Proofs.YtfgeldeaahdddaaDoor
open Go.RowKit Lx

theorem big_num : ∀ (f n : Nat), n ≤ f → big (num n) = n
  | 0, n, h => by
    have : n = 0 := by omega
    subst this
    rw [num_zero]; rfl
  | f + 1, n, h => by
    by_cases h0 : n = 0
    · subst h0; rw [num_zero]; rfl
    · rw [num_pos n (by omega), big_snoc, big_num f (n / 256) (by omega), u8_ofNat _ (Nat.mod_lt _ (by decide))]
      omega
theorem num_ne (n : Nat) (h : 0 < n) : 0 < (num n).length := by
  rw [num_pos n h]; simp
theorem num_two (n : Nat) (h : 65536 ≤ n) : 3 ≤ (num n).length := by
  rw [num_pos n (by omega), num_pos (n / 256) (by omega), num_pos (n / 256 / 256) (by omega)]
  simp
theorem getD_app (b pre post : List UInt8) (h : b = pre ++ post) (j : Nat) : b.getD (pre.length + j) 0 = post.getD j 0 := by
  subst h
  rw [List.getD_eq_getElem?_getD, List.getElem?_append_right (by omega), List.getD_eq_getElem?_getD]
  congr 2
  omega
theorem cut_app (pre mid post : List UInt8) : cut (pre ++ (mid ++ post)) pre.length (pre.length + mid.length) = mid := by
  unfold cut
  rw [List.drop_left, Nat.add_sub_cancel_left, List.take_left]
/-- A length that is written is read. -/
theorem plen_enc (pre post : List UInt8) (k e : Nat) (hk : k < 16777216) (he : pre.length + (lenEnc k).length ≤ e) : plen (pre ++ (lenEnc k ++ post)) pre.length e = ⟨k, pre.length + (lenEnc k).length, 0, 0⟩ := by
  by_cases h : k < 128
  · have hl : lenEnc k = [UInt8.ofNat k] := by unfold lenEnc; rw [if_pos h]
    have hg : (pre ++ (lenEnc k ++ post)).getD pre.length 0 = UInt8.ofNat k := by
      have := getD_app _ pre (lenEnc k ++ post) rfl 0
      rw [Nat.add_zero] at this
      rw [this, hl]; rfl
    have ht := u8_ofNat k (by omega)
    unfold plen
    rw [hg, ht, if_neg (by rw [hl] at he; simp at he; omega), if_pos h, hl]
    rfl
  · have hl : lenEnc k = UInt8.ofNat (128 + (num k).length) :: num k := by unfold lenEnc; rw [if_neg h]
    have h3 := num_len3 k hk
    have h0 := num_ne k (by omega)
    have hg : (pre ++ (lenEnc k ++ post)).getD pre.length 0 = UInt8.ofNat (128 + (num k).length) := by
      have := getD_app _ pre (lenEnc k ++ post) rfl 0
      rw [Nat.add_zero] at this
      rw [this, hl]; rfl
    have ht := u8_ofNat (128 + (num k).length) (by omega)
    have hll : (lenEnc k).length = 1 + (num k).length := by rw [hl]; simp; omega
    have hc : cut (pre ++ (lenEnc k ++ post)) (pre.length + 1) (pre.length + 1 + (num k).length) = num k := by
      have := cut_app (pre ++ [UInt8.ofNat (128 + (num k).length)]) (num k) post
      rw [List.length_append, List.length_singleton] at this
      have e : pre ++ (lenEnc k ++ post) = pre ++ [UInt8.ofNat (128 + (num k).length)] ++ (num k ++ post) := by rw [hl, List.append_assoc]; rfl
      rw [e]
      exact this
    unfold plen
    rw [hg, ht, if_neg (by omega), if_neg (by omega), if_neg (by omega), Nat.add_sub_cancel_left, if_neg (by omega), hc, big_num k k (Nat.le_refl _), if_neg (by omega), hll]
    congr 1
    omega
def oT (xs : List UInt8) : Tre := ⟨4, xs, []⟩
theorem oT_text (xs : List UInt8) : (oT xs).text = 4 :: (lenEnc xs.length ++ xs) := by
  rw [Tre.text_eq]
  simp [oT, Tre.tag, Tre.bs, Tre.kids, Tre.textL]
theorem oT_len (xs : List UInt8) : (oT xs).text.length = xs.length + 1 + (lenEnc xs.length).length := by
  rw [oT_text]; simp; omega
theorem oT_depth (xs : List UInt8) : (oT xs).depth = 1 := by simp [oT, Tre.depth, Tre.depthL]
theorem lenEnc_small (k : Nat) (h : k < 16777216) : (lenEnc k).length ≤ 4 := by
  rw [lenEnc_len]
  have := num_len3 k h
  split <;> omega
theorem oT_valid (xs : List UInt8) (h : xs.length ≤ 1048571) : validB (oT xs) = true := by
  unfold validB
  rw [oT_depth]
  have h1 := oT_len xs
  have h2 := lenEnc_small xs.length (by omega)
  have h3 : (oT xs).text.length ≤ 1048576 := by omega
  have h4 : (oT xs).shaped = true := by
    rw [Tre.shaped_eq]
    simp [oT, Tre.tag, Tre.kids, Tre.shapedL, tagOk, comp]
  simp [h3, h4]
theorem oT_novalid (xs : List UInt8) (h : xs.length = 1048572) : validB (oT xs) = false := by
  unfold validB
  have h1 := oT_len xs
  rw [lenEnc_len, h, if_neg (by omega)] at h1
  have h2 := num_two 1048572 (by omega)
  have h3 : ¬ (oT xs).text.length ≤ 1048576 := by omega
  simp [h3]
theorem oT_parse (xs : List UInt8) (h : xs.length ≤ 1048571) : pparse (oT xs).text = ⟨oT xs, (oT xs).text.length, 0, 0⟩ := by
  have h1 := oT_len xs
  have h2 := lenEnc_small xs.length (by omega)
  have hp := plen_enc [4] xs xs.length (oT xs).text.length (by omega) (by simp; omega)
  have hb : [4] ++ (lenEnc xs.length ++ xs) = (oT xs).text := by rw [oT_text]; rfl
  rw [hb] at hp
  have hg : (oT xs).text.getD 0 0 = 4 := by rw [oT_text]; rfl
  have hc : cut (oT xs).text (1 + (lenEnc xs.length).length) (1 + (lenEnc xs.length).length + xs.length) = xs := by
    have := cut_app ([4] ++ lenEnc xs.length) xs []
    rw [List.append_nil, List.length_append] at this
    rw [← hb, ← List.append_assoc]
    exact this
  have hr : pread 8 (oT xs).text 0 (oT xs).text.length = ⟨oT xs, (oT xs).text.length, 0, 0⟩ := by
    unfold pread
    rw [hg, if_neg (by omega), if_neg (by decide)]
    have hp' : plen (oT xs).text (0 + 1) (oT xs).text.length = ⟨xs.length, 1 + (lenEnc xs.length).length, 0, 0⟩ := hp
    rw [hp', if_neg (by simp)]
    simp only
    rw [if_neg (by omega), if_pos (by decide), hc]
    unfold oT at h1 ⊢
    congr 1
    omega
  unfold pparse
  rw [hr, if_neg (by omega), if_neg (by simp)]
theorem made_rep {W : World} {g k : Nat} {xs : List UInt8} {T : TypeId} {fr : Nat × Nat} (hx : xs = List.replicate k 0) (h : W.heap[g]? = some (.cells (madeCells #[.int .u8 0] k) T fr)) (hk : k ≤ 9223372036854775807) :
    Rep (fun j => j = g) W (.slice (some ⟨g, 0, none⟩) xs.length xs.length) (byts xs) := by
  have hl : xs.length = k := by rw [hx]; simp
  refine bytes_mk (Nat.le_refl _) (by omega) (fun _ => rfl) fun i hi => ?_
  have ha : (⟨g, 0, none⟩ : Addr).add i = ⟨g, i, none⟩ := by unfold Addr.add; split <;> simp_all
  rw [ha, blk_cell h i, ← Array.getElem?_toList, toList_madeCells_one, List.getElem?_replicate, if_pos (by omega)]
  subst hx
  simp
end Go.Proofs.YtfgeldeaahdddaaDoor
