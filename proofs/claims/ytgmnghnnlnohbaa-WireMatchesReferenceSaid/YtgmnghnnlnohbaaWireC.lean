/- Rest, and the reference's Take. -/
import Derived.Test.YtgmnghnnlnohbaaWireB
set_option linter.unusedVariables false
set_option linter.unusedSimpArgs false
namespace Go.Proofs.Ytgmnghnnlnohbaa
open Go.RowKit Lx

theorem res_cell_tmp2 {P : Program} {fn : Func} {tmps : Array Value} {w : World} {p q q' : Tmp} {ty : TypeId} {g : Nat} {cs : Array Value} {t : TypeId} {fr : Nat × Nat} {d : TypeDesc} (h : fn.results = #[.cell p ty, .tmp q, .tmp q']) (hp : tmps.getD p undef = .pointer (some ⟨g, 0, none⟩)) (hg : w.heap[g]? = some (.cells cs t fr))
    (hu : P.underlying ty = some d) (hd : (match d with | .struct _ | .array _ _ => true | _ => false) = true) (hi : (P.info? ty).map (·.size) = some cs.size) : (results fn tmps).run P w = .ok (.tuple #[.agg cs, tmps.getD q undef, tmps.getD q' undef]) w := by
  have hp' : tmps[p]?.getD undef = .pointer (some ⟨g, 0, none⟩) := by simpa using hp
  have hl := run_loadVar_row w g t ty cs fr d hg hu hd hi
  unfold results
  rw [h]
  simp [hp', asAddr, hl]
theorem blk_set2 {w : World} {g : Nat} {a0 a1 : Value} {t : TypeId} {fr : Nat × Nat} (h : w.heap[g]? = some (.cells #[a0, a1] t fr)) (b0 b1 : Value) :
    ((w.setCell ⟨g, 0, none⟩ b0).setCell ⟨g, 1, none⟩ b1).heap[g]? = some (.cells #[b0, b1] t fr) := by
  have := blk_set (blk_set h 0 b0) 1 b1
  simpa using this
theorem new_block2 (w : World) (o o' : Obj) : ((w.alloc o).alloc o').heap[w.heap.size + 1]? = some o' := by simpa using new_block (w.alloc o) o'
theorem info28 : (Try.prog.info? 28).map (·.size) = some 2 := by kernel_rfl
theorem take_results {tmps : Array Value} {w : World} {g : Nat} {cs : Array Value} {t : TypeId} {fr : Nat × Nat} (hp : tmps.getD 4 undef = .pointer (some ⟨g, 0, none⟩)) (hg : w.heap[g]? = some (.cells cs t fr)) (hc : cs.size = 2) :
    (results Try.f7 tmps).run Try.prog w = .ok (.tuple #[.agg cs, tmps.getD 5 undef, tmps.getD 6 undef]) w :=
  res_cell_tmp2 rfl hp hg Try.underlying28 rfl (by rw [info28, hc])

set_option maxHeartbeats 2000000 in
theorem Rest_any (S : Nat → Prop) (g : Nat) (A : Option Addr) (c : Nat) (b : List UInt8) (i : Nat) (w : World) (hx : Rdr w g A c b i) (hr : Rep S w (.slice A b.length c) (byts b)) (hS : ∀ k, S k → k ≠ g) (hi : i ≤ b.length) (hb : b.length ≤ 1000) :
    Calls Try.prog 10 #[.pointer (some ⟨g, 0, none⟩)] w
      fun ev w' => ∃ v, ev = .returned v ∧ Own (fun _ => False) w' w.heap.size 5 v 1 ((tkB b i ((b.length : Int) - i)).map byteCell) ∧ Rdr w' g A c b (tkI b i ((b.length : Int) - i) : Nat) ∧ w.grownBy w' (some g) := by
  have HX := Lib.hid hx
  have HR := Lib.hid hr
  clear hx hr
  have hrn : ∀ m, Rep S (w.drewN m) (.slice A b.length c) (byts b) := fun m => HR.out.old (bl_drewN (bl_refl _) _)
  have HRN := Lib.hid hrn
  clear hrn
  go_enter Try.func10, Try.ntmps10
  go_wp2_with (first | (go_at_call 13; go_must (refine (Left_any g A c b i _ HX.out hb hi).mono ?_; rintro e w1 ⟨rfl, m, rfl⟩)) | (go_at_call 6; go_must (refine (Take_any S g A c b i _ (w.drewN m) HX.out (HRN.out _) hS hi hb).mono ?_; rintro e w2 ⟨v, rfl, ho, hrd, hgr⟩)))
  go_ret
  exact ⟨_, rfl, ho, hrd, (gr_drewN (gr_refl _ _) _).trans hgr⟩

set_option maxHeartbeats 4000000 in
theorem refTake_any (S : Nat → Prop) (A : Option Addr) (c : Nat) (b : List UInt8) (i : Nat) (n : Int) (w : World) (hr : Rep S w (.slice A b.length c) (byts b)) (hi : i ≤ b.length) (hb : b.length ≤ 1000) :
    Calls Try.prog 7 #[.agg #[.slice A b.length c, .int .i64 (i : Int)], .int .i64 n] w
      fun ev w' => ∃ v, ev = .returned (.tuple #[.agg #[.slice A b.length c, .int .i64 ((tkI b i n : Nat) : Int)], v, .bool (tk b i n)]) ∧ Own (fun _ => False) w' w.heap.size 5 v 1 ((tkB b i n).map byteCell) ∧ Below w.heap.size w w' := by
  have HR := Lib.hid hr
  clear hr
  by_cases c1 : n < 0
  · have HT := Lib.hid (show tk b i n = false by unfold tk; rw [decide_eq_false_iff_not]; omega)
    go_enter Try.func7, Try.ntmps7
    go_wp2
    refine bodyPost_ret (take_results rfl (new_block2 _ _ _) rfl) rfl ⟨.slice none 0 0, ?_, ?_, bl_alloc (bl_alloc (bl_refl _) _) _⟩
    · rw [HT.out]; unfold tkI; rw [HT.out]; rfl
    · unfold tkB; rw [HT.out]; exact Own.nil _ _ _ _ _
  · by_cases c2 : (b.length : Int) - i < n
    · have HT := Lib.hid (show tk b i n = false by unfold tk; rw [decide_eq_false_iff_not]; omega)
      go_enter Try.func7, Try.ntmps7
      go_wp2
      refine bodyPost_ret (take_results rfl (new_block2 _ _ _) rfl) rfl ⟨.slice none 0 0, ?_, ?_, bl_alloc (bl_alloc (bl_refl _) _) _⟩
      · rw [HT.out]; unfold tkI; rw [HT.out]; rfl
      · unfold tkB; rw [HT.out]; exact Own.nil _ _ _ _ _
    · obtain ⟨l, rfl⟩ : ∃ l : Nat, n = (l : Int) := ⟨n.toNat, by omega⟩
      have HT := Lib.hid (show tk b i (l : Int) = true by unfold tk; rw [decide_eq_true_iff]; omega)
      obtain ⟨A', c', hsl, hrc, hlc⟩ := slice_mid (P := Try.prog) Try.underlying22 info5 HR.out i l (by omega)
      have hlen : ((b.drop i).take l).length = l := by rw [List.length_take, List.length_drop]; omega
      have HB := Lib.hid (show tkB b i (l : Int) = (b.drop i).take l by unfold tkB; rw [HT.out]; rfl)
      have HI := Lib.hid (show tkI b i (l : Int) = i + l by unfold tkI; rw [HT.out]; rfl)
      generalize (b.drop i).take l = ys at hrc hlen HB
      have HRC := Lib.hid hrc
      clear hrc
      subst hlen
      go_enter Try.func7, Try.ntmps7
      go_wp2_with (at_builtin; go_must (refine wp_append_bytes (B := w.heap.size + 2) rfl _ _ rfl Try.underlying22 info5 _ [] ys _ rfl rfl (own_lit_bytes' [] (by simp) (by simp) rfl (by simp) (by simp)) (HRC.out.old (bl_alloc (bl_alloc (bl_alloc (bl_refl _) _) _) _)) (by simp) (by simp; omega) ?_; intro v1 w1 ho1 hbl1 hg1 hat1; have hsh := ho1.bytes_slice; obtain ⟨A9, c9, rfl, hc9, _⟩ := hsh; clear hg1 hat1; have hb1 := hbl1 _ ((Below.refl _ ((w.alloc (.cells #[.slice A b.length c, .int .i64 (i : Int)] 28)).alloc (.cells #[.slice none 0 0, .int .i64 0] 28))).alloc (by simp) _); have hy1 := (hb1.block w.heap.size (by simp)).trans (alloc_keep (new_block w (.cells #[.slice A b.length c, .int .i64 (i : Int)] 28)) _); have hy2 := (hb1.block (w.heap.size + 1) (by simp)).trans (new_block2 _ _ _); have as0 := blk_cell hy1 0; have as1 := blk_cell hy1 1; have az0 := blk_frozen hy1 0; have az1 := blk_frozen hy1 1; simp only [List.getElem?_toArray, List.getElem?_cons_zero, List.getElem?_cons_succ] at as0 as1; have bs0 := blk_cell hy2 0; have bs1 := blk_cell hy2 1; have bz0 := blk_frozen hy2 0; have bz1 := blk_frozen hy2 1; simp only [List.getElem?_toArray, List.getElem?_cons_zero, List.getElem?_cons_succ] at bs0 bs1; have HY2 := Lib.hid hy2; have HB1 := Lib.hid hb1; have HO1 := Lib.hid ho1; clear hy1 hy2 hb1 hbl1 ho1))
      refine bodyPost_ret (take_results rfl (blk_set2 (blk_set_far HY2.out (by simp) _) _ _) rfl) rfl ⟨.slice A9 ys.length c9, ?_, ?_, ?_⟩
      · rw [HT.out, HI.out]; rfl
      · rw [HB.out]
        have h1 := HO1.out.lower (B' := w.heap.size) (by omega)
        refine h1.move (fun k hk => ?_) (fun k hk => hk.elim)
        have h2 := (HO1.out.lt k hk).1
        (repeat (refine (Below.heap_setCell _ _ _ _ (by first | omega | (simp; omega))).trans ?_)); with_reducible rfl
      · (repeat (with_reducible refine bl_set ?_ (by first | exact Nat.le_refl _ | (simp; done) | (simp; omega)) _)); exact (bl_alloc (bl_alloc (bl_refl _) _) _).trans (HB1.out.mono (by omega))
end Go.Proofs.Ytgmnghnnlnohbaa
