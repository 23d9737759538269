/- The law's given. -/
import Derived.Test.YtfgeldeaahdddaaDoorDerO
import Derived.Test.YtfgeldeaahdddaaDoorStep
set_option linter.unusedVariables false
set_option linter.unusedSimpArgs false
namespace Go.Proofs.YtfgeldeaahdddaaDoor
open Go.RowKit Lx

namespace Lx.Tre
mutual
/-- Every list of kids takes fewer than 2^47 bytes. -/
def fit : Tre → Prop
  | ⟨_, _, k⟩ => k.length * 56 ≤ 140737488351232 ∧ fitL k
def fitL : List Tre → Prop
  | [] => True
  | k :: r => fit k ∧ fitL r
end
theorem fit_eq (n : Tre) : n.fit = (n.kids.length * 56 ≤ 140737488351232 ∧ fitL n.kids) := by cases n; rw [fit]; rfl
theorem fitL_mem {l : List Tre} (h : fitL l) : ∀ x ∈ l, x.fit := by
  induction l with
  | nil => intro x hx; cases hx
  | cons y l ih =>
    rw [fitL] at h
    intro x hx
    rcases List.mem_cons.1 hx with rfl | hx
    · exact h.1
    · exact ih h.2 x hx
end Lx.Tre
theorem elem_reps2 {S E : Nat → Prop} {wr w1 W : World} {n : Tre} {A1 A2 : Option Addr} {k1 k2 : Nat} {v : Value} {B : Nat} (hlt : ∀ k, v.ownBlock = some k → B ≤ k ∧ k < wr.heap.size)
    (g1 : Rep E w1 (.slice A1 n.bs.length k1) (byts n.bs)) (g2 : Rep E w1 (.slice A2 n.kids.length k2) (.sl 3 (Tre.cellsL n.kids))) (hb : Below w1.heap.size w1 W) (hE : ∀ k, E k → S k ∧ (k < B ∨ wr.heap.size ≤ k)) :
    ∀ j (h1 : j < [Value.int .u8 ((n.tag.toNat : Nat) : Int), .slice A1 n.bs.length k1, .slice A2 n.kids.length k2].length) (h2 : j < n.cells.length),
      Rep (fun k => S k ∧ some k ≠ v.ownBlock) W ([Value.int .u8 ((n.tag.toNat : Nat) : Int), .slice A1 n.bs.length k1, .slice A2 n.kids.length k2][j]) (n.cells[j]) := by
  have mv : ∀ {x : Value} {q : Cl}, Rep E w1 x q → Rep (fun k => S k ∧ some k ≠ v.ownBlock) W x q := fun h => h.move' fun k hk hl => ⟨⟨(hE k hk).1, fun e => by have := hlt k e.symm; have := (hE k hk).2; omega⟩, hb.block k hl⟩
  intro j h1 h2
  simp only [Tre.cells_eq] at h2 ⊢
  match j, h1, h2 with
  | 0, _, _ => exact .val _
  | 1, _, _ => exact mv g1
  | 2, _, _ => exact mv g2
theorem given_results {tmps : Array Value} {w : World} {g : Nat} {cs : Array Value} (hp : tmps.getD 2 undef = .pointer (some ⟨g, 0, none⟩)) (hg : w.heap[g]? = some (.cells cs 26 (0, 0))) (hs : cs.size = 3) : (results Tryd.f16 tmps).run Tryd.prog w = .ok (.agg cs) w :=
  res_cell (fn := Tryd.f16) rfl hp hg Tryd.underlying26 rfl (by rw [hs]; kernel_rfl)
theorem new_block3 (w : World) (o o' o'' : Obj) : (((w.alloc o).alloc o').alloc o'').heap[w.heap.size + 2]? = some o'' := by simpa using new_block ((w.alloc o).alloc o') o''
set_option maxRecDepth 100000 in
set_option maxHeartbeats 8000000 in
theorem given_calls (m : Nat) : ∀ (n : Tre) (S : Nat → Prop) (v : Value) (w : World), n.depth ≤ m → n.fit → TreV S w v n →
    Calls Tryd.prog 16 #[v] w fun e w' => ∃ v', e = .returned v' ∧ TreV (fun k => (S k ∧ k < w.heap.size) ∨ w.heap.size ≤ k) w' v' n ∧ Below w.heap.size w w' := by
  induction m with
  | zero => intro n S v w h; have := Tre.depth_eq n; omega
  | succ m ih =>
    intro n S v w hd hfit hv
    have hv' := hv.mono (S' := fun k => S k ∧ k < w.heap.size) (fun k h1 h2 => ⟨h1, h2⟩)
    obtain ⟨A1, c1, A, c, rfl, hc1, hc, hBs, hK⟩ := hv'
    obtain ⟨A', c', he, _, hlm, hat⟩ := kids_parts hK
    cases he
    obtain ⟨_, _, _, _, hlb, _⟩ := byts_parts hBs
    rw [Tre.fit_eq] at hfit
    obtain ⟨hf1, hf2⟩ := hfit
    have HAT := Lib.hid hat
    have HD := Lib.hid hd
    have HBs := Lib.hid hBs; have Hf2 := Lib.hid hf2; clear hBs hf2
    clear hK hat hd hv
    go_enter Tryd.func16, Tryd.ntmps16
    go_wp2
    go_loopw [4] (fun i wr => ∃ (k : Nat) (AK : Option Addr) (nK cK : Nat), k ≤ n.kids.length ∧ i = .int .i64 (k : Int) ∧ Below w.heap.size w wr
        ∧ wr.heap[w.heap.size]? = some (.cells #[.int .u8 (n.tag.toNat : Int), .slice A1 n.bs.length c1, .slice A n.kids.length c] 33 (0, 0))
        ∧ wr.heap[w.heap.size + 1]? = some (.cells #[.int .u8 0, .slice none 0 0, .slice none 0 0] 26 (0, 0))
        ∧ wr.heap[w.heap.size + 2]? = some (.cells #[.int .u8 (n.tag.toNat : Int), .slice A1 n.bs.length c1, .slice AK nK cK] 26 (0, 0))
        ∧ Own (fun k => (S k ∧ k < w.heap.size) ∨ w.heap.size + 2 < k) wr (w.heap.size + 3) 26 (.slice AK nK cK) 3 (Tre.cellsL (n.kids.take k))) (fun i _ => n.kids.length - (intOf i).toNat)
    case atStart => exact ⟨0, none, 0, 0, Nat.zero_le _, rfl, bl_alloc (bl_alloc (bl_alloc (bl_refl _) _) _) _, alloc_keep (alloc_keep (new_block _ _) _) _, alloc_keep (new_block2 _ _ _) _, new_block3 _ _ _ _, Own.nil _ _ _ _ _⟩
    case round =>
      obtain ⟨k, AK, nK, cK, hk, rfl, hb, hx, hr, hy, hown⟩ := hrel
      have hlx := blk_lt hx
      have hly := blk_lt hy
      have x0 := blk_cell hx 0; have x1 := blk_cell hx 1; have x2 := blk_cell hx 2; have xz0 := blk_frozen hx 0; have xz1 := blk_frozen hx 1; have xz2 := blk_frozen hx 2; simp only [List.getElem?_toArray, List.getElem?_cons_zero, List.getElem?_cons_succ] at x0 x1 x2
      have r0 := blk_cell hr 0; have r1 := blk_cell hr 1; have r2 := blk_cell hr 2; have rz0 := blk_frozen hr 0; have rz1 := blk_frozen hr 1; have rz2 := blk_frozen hr 2; simp only [List.getElem?_toArray, List.getElem?_cons_zero, List.getElem?_cons_succ] at r0 r1 r2
      have y0 := blk_cell hy 0; have y1 := blk_cell hy 1; have y2 := blk_cell hy 2; have yz0 := blk_frozen hy 0; have yz1 := blk_frozen hy 1; have yz2 := blk_frozen hy 2; simp only [List.getElem?_toArray, List.getElem?_cons_zero, List.getElem?_cons_succ] at y0 y1 y2
      by_cases hlt : k < n.kids.length
      · obtain ⟨ad, A1', c1', A2', c2', rfl, e0, e1, e2, l1, l2, r1', r2'⟩ := HAT.out k hlt
        have d0 := cell_move (hb.block _ (World.block_lt_of_cell? w _ e0)) e0
        have d1 := cell_move (hb.block _ (World.block_lt_of_cell? w _ e1)) e1
        have d2 := cell_move (hb.block _ (World.block_lt_of_cell? w _ e2)) e2
        have hkd : (n.kids[k]).depth ≤ m := by have := Tre.depth_kid n k hlt; have := HD.out; omega
        have hkf := Tre.fitL_mem Hf2.out _ (List.getElem_mem hlt)
        have hws := hb.size
        have V1 := Lib.hid (show TreV (fun k => S k ∧ k < w.heap.size) w _ (n.kids[k]) from ⟨A1', c1', A2', c2', rfl, l1, l2, r1', r2'⟩)
        have Hkf := Lib.hid hkf; have Hb := Lib.hid hb; have Hx := Lib.hid hx; have Hr := Lib.hid hr; have Hy := Lib.hid hy; have Hown := Lib.hid hown; clear hkf hb hx hr hy hown
        clear e0 e1 e2 r1' r2'
        go_wp2
        have hnxt := Tre.take_snoc n.kids k hlt
        go_region_law ((first
          | (go_simp; go_at_call 16; refine (ih (n.kids[k]) _ _ _ hkd Hkf.out (V1.out.old (bl_drew Hb.out))).mono ?_; rintro e w1 ⟨v1, rfl, ⟨B1, k1, B2, k2, rfl, m1, m2, g1, g2⟩, hb1⟩; have hy1 := (hb1.block _ hly).trans Hy.out; have hx1 := (hb1.block _ hlx).trans Hx.out; have hr1 := (hb1.block _ (blk_lt Hr.out)).trans Hr.out; have z0 := blk_cell hy1 0; have z1 := blk_cell hy1 1; have z2 := blk_cell hy1 2; have zz0 := blk_frozen hy1 0; have zz1 := blk_frozen hy1 1; have zz2 := blk_frozen hy1 2; simp only [List.getElem?_toArray, List.getElem?_cons_zero, List.getElem?_cons_succ] at z0 z1 z2; have hly1 := blk_lt hy1; have ho1 := (Hown.out.below (bl_drew (bl_refl _))).below hb1; have hws1 : wr.heap.size ≤ w1.heap.size := hb1.size; have Hy1 := Lib.hid hy1; have Hx1 := Lib.hid hx1; have Hr1 := Lib.hid hr1; have Ho1 := Lib.hid ho1; have Hb1 := Lib.hid hb1; have G1 := Lib.hid g1; have G2 := Lib.hid g2; clear hy1 hx1 hr1 ho1 hb1 g1 g2; dsimp only)
          | (refine step_append_one' (S := fun k => (S k ∧ k < w.heap.size) ∨ w.heap.size + 2 < k) (B := w.heap.size + 3) (by rfl) _ _ (by rfl) Tryd.underlying24 info26 rfl (Nat.succ_pos _) (Nat.succ_pos _) (.slice AK nK cK) (Tre.cellsL (n.kids.take k)) (n.kids[k]).cells [.int .u8 (((n.kids[k]).tag.toNat : Nat) : Int), .slice B1 (n.kids[k]).bs.length k1, .slice B2 (n.kids[k]).kids.length k2] (by rfl) w1.heap.size ?hgg (by rfl) Ho1.out ?hBB rfl ?h11 (Tre.cells_length _) ?hreps ?hlen ?_; (case hgg => simp); (case hBB => omega); (case h11 => simp [Value.oneCell']); (case hlen => intro n9 hn9; rw [Tre.cellsL_length, List.length_take] at hn9; omega); (case hreps => exact elem_reps2 (E := fun k => ((S k ∧ k < w.heap.size) ∧ k < wr.drew.heap.size) ∨ wr.drew.heap.size ≤ k) Hown.out.lt G1.out G2.out (bl_refl _) (fun k hk => ⟨hk.elim (fun h => .inl h.1) (fun h => .inr (Nat.lt_of_lt_of_le hly h)), hk.elim (fun h => .inl (by have := h.1.2; omega)) (fun h => .inr h)⟩)); intro v9 w2 ho9 hbl9 hg9 hat9; obtain ⟨A9, n9, c9, rfl, _⟩ := ho9.len; have hz := (hg9.block _ (blk_lt Hy1.out) (fun e => by have := (Ho1.out.lt _ e.symm).1; omega)).trans Hy1.out; clear z0 z1 z2 zz0 zz1 zz2; have z0 := blk_cell hz 0; have z1 := blk_cell hz 1; have z2 := blk_cell hz 2; have zz0 := blk_frozen hz 0; have zz1 := blk_frozen hz 1; have zz2 := blk_frozen hz 2; simp only [List.getElem?_toArray, List.getElem?_cons_zero, List.getElem?_cons_succ] at z0 z1 z2; have hlz := blk_lt hz; have Hz := Lib.hid hz; have Ho9 := Lib.hid ho9; have Hbl9 := Lib.hid hbl9; have Hg9 := Lib.hid hg9; clear hz ho9 hbl9 hg9; clear hat9)))
        all_goals
          clear x0 x1 x2 xz0 xz1 xz2 r0 r1 r2 rz0 rz1 rz2 y0 y1 y2 yz0 yz1 yz2 d0 d1 d2
          go_wp2
          have ho := Ho9.out
          rw [show Tre.cellsL (n.kids.take k) ++ (n.kids[k]).cells = Tre.cellsL (n.kids.take (k + 1)) by rw [hnxt, Tre.cellsL_append]; simp [Tre.cellsL]] at ho
          have hrow : ∀ k, (Value.slice AK nK cK).ownBlock = some k → w.heap.size + 3 ≤ k := fun k e => (Ho1.out.lt k e).1
          have hx2 := (Hg9.out.block _ (blk_lt Hx1.out) (fun e => by have := hrow _ e.symm; omega)).trans Hx1.out
          have hr2 := (Hg9.out.block _ (blk_lt Hr1.out) (fun e => by have := hrow _ e.symm; omega)).trans Hr1.out
          refine ⟨⟨k + 1, A9, n9, c9, by omega, by go_num, bl_set (bl_grown (bl_then (bl_drew Hb.out) Hb1.out) Hg9.out (fun k e => by have := hrow k e; omega)) (by simp; omega) _, blk_set_far hx2 (by simp; omega) _, blk_set_far hr2 (by simp) _, blk_set Hz.out 2 _, ?_⟩, by simp [intOf]; omega⟩
          exact ho.move (fun k hk => by have := (ho.lt k hk).1; exact Below.heap_setCell _ _ _ _ (by simp; omega)) (fun k hk _ _ => ⟨hk, Below.heap_setCell _ _ _ _ (by simp; rcases hk with ⟨_, h⟩ | h <;> omega)⟩)
      · have hke : k = n.kids.length := by omega
        rw [hke, List.take_length] at hown
        obtain ⟨_, _, _, he9, hl9, hc9, _⟩ := hown.len
        cases he9
        have hn9 : nK = n.kids.length := by rw [Tre.cellsL_length] at hl9; omega
        subst hn9
        have hws := hb.size
        have Hb := Lib.hid hb; have Hx := Lib.hid hx; have Hr := Lib.hid hr; have Hy := Lib.hid hy; have Hown := Lib.hid hown; clear hb hx hr hy hown
        clear hke
        go_wp2
        refine bodyPost_ret (given_results rfl (blk_set3 Hr.out _ _ _) rfl) rfl ⟨_, rfl, ⟨A1, c1, AK, cK, rfl, hc1, hc9, ?_, ?_⟩, ?_⟩
        · refine HBs.out.move' fun k hk hl => ⟨.inl hk, ?_⟩
          have := hk.2
          (repeat (refine (Below.heap_setCell _ _ _ _ (by simp; omega)).trans ?_)); exact Hb.out.block k hl
        · have hrp := Hown.out.rep (S' := fun k => (S k ∧ k < w.heap.size) ∨ w.heap.size + 2 < k) (by decide) (fun k hk _ => hk) (fun k hk _ => .inr hk)
          refine hrp.move' fun k hk hl => ⟨hk.elim .inl fun h => .inr (by omega), ?_⟩
          (repeat (refine (Below.heap_setCell _ _ _ _ (by simp; rcases hk with ⟨_, h⟩ | h <;> omega)).trans ?_)); with_reducible rfl
        · exact bl_set (bl_set (bl_set Hb.out (Nat.le_succ _) _) (Nat.le_succ _) _) (Nat.le_succ _) _
end Go.Proofs.YtfgeldeaahdddaaDoor
