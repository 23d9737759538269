/- The law's walk. -/
import Derived.Test.YtgmnghnnlnohbaaWireG
import Derived.Deep.DeepCutAuto
import Derived.Deep.CutBlock
import Derived.Deep.RegionWith
set_option linter.unusedVariables false
set_option linter.unusedSimpArgs false
namespace Go.Proofs.Ytgmnghnnlnohbaa
open Go.RowKit Lx

/-- The operations, as cells. -/
def opCells (ops : List (Int × Int)) : List Cl := ops.flatMap fun o => [.val (.int .i64 o.1), .val (.int .i64 o.2)]
theorem opCells_len (ops : List (Int × Int)) : (opCells ops).length = ops.length * 2 := by
  induction ops with
  | nil => rfl
  | cons o r ih => simp only [opCells, List.flatMap_cons, List.length_append, List.length_cons, List.length_nil] at ih ⊢; omega

theorem opCells_at (ops : List (Int × Int)) : ∀ (k : Nat) (h : k < ops.length), (opCells ops)[k * 2]? = some (.val (.int .i64 ops[k].1)) ∧ (opCells ops)[k * 2 + 1]? = some (.val (.int .i64 ops[k].2)) := by
  induction ops with
  | nil => intro k h; simp at h
  | cons o r ih =>
    intro k h
    cases k with
    | zero => exact ⟨rfl, rfl⟩
    | succ k =>
      have h1 := ih k (by simpa using h)
      rw [show (k + 1) * 2 = k * 2 + 1 + 1 by omega]
      exact h1
theorem ops_at {S : Nat → Prop} {w : World} {AL : Option Addr} {n cl : Nat} {ops : List (Int × Int)} (h : Rep S w (.slice AL n cl) (.sl 2 (opCells ops))) (k : Nat) (hk : k < ops.length) :
    ∃ ad, AL = some ad ∧ w.cell? (ad.add (k * 2)) = some (.int .i64 ops[k].1) ∧ w.cell? (ad.add (k * 2 + 1)) = some (.int .i64 ops[k].2)
      ∧ w.cell? ⟨(ad.add (k * 2)).block, (ad.add (k * 2)).off + 1, none⟩ = some (.int .i64 ops[k].2) ∧ w.cell? ⟨ad.block, ad.off + (k * 2 + 1), none⟩ = some (.int .i64 ops[k].2) := by
  obtain ⟨A, m, c, he, hl, hc, hm, hp⟩ := Rep.parts h
  cases he
  rw [opCells_len] at hl
  obtain ⟨ad, rfl, _, vs, hv⟩ := hp (by omega)
  obtain ⟨o1, o2⟩ := opCells_at ops k hk
  obtain ⟨q1, o1⟩ := List.getElem?_eq_some_iff.1 o1
  obtain ⟨q2, o2⟩ := List.getElem?_eq_some_iff.1 o2
  obtain ⟨h1, h2⟩ := hv (k * 2) q1
  obtain ⟨h3, h4⟩ := hv (k * 2 + 1) q2
  have h5 := h2 q1
  have h6 := h4 q2
  rw [o1] at h5
  rw [o2] at h6
  have h7 : w.cell? (ad.add (k * 2)) = some (.int .i64 ops[k].1) := by rw [h1]; generalize vs (k * 2) = u at h5; cases h5; rfl
  have h8 : w.cell? (ad.add (k * 2 + 1)) = some (.int .i64 ops[k].2) := by rw [h3]; generalize vs (k * 2 + 1) = u at h6; cases h6; rfl
  refine ⟨ad, rfl, h7, h8, ?_, ?_⟩
  · have h9 : (⟨(ad.add (k * 2)).block, (ad.add (k * 2)).off + 1, none⟩ : Addr) = ad.add (k * 2 + 1) := by
      unfold Addr.add
      by_cases h0 : k = 0
      · subst h0; simp
      · have h1 : k * 2 ≠ 0 := by omega
        simp [h1, Nat.add_assoc]
    rw [h9]; exact h8
  · have h9 : (⟨ad.block, ad.off + (k * 2 + 1), none⟩ : Addr) = ad.add (k * 2 + 1) := by
      unfold Addr.add
      rw [if_neg (by omega)]
    rw [h9]; exact h8

/-- What the switch leaves. -/
def SwR (w wo : World) (n2 g : Nat) (A A' : Option Addr) (c c' : Nat) (b : List UInt8) (v10 v11 v12 v13 v14 v15 : Value) (wc : World) : Prop :=
  ∃ (A1 A3 : Option Addr) (k1 k3 : Nat) (xs : List UInt8) (ob : Bool) (xv : Int) (i' : Nat) (row1 : Option Nat), v10 = .slice A1 xs.length k1 ∧ v11 = .slice A3 xs.length k3 ∧ v12 = .bool ob ∧ v13 = .bool ob ∧ v14 = .int .u64 xv ∧ v15 = .int .u64 xv
    ∧ i' ≤ b.length ∧ xs.length ≤ 1000 ∧ Rep (fun _ => True) wc v10 (byts xs) ∧ Rep (fun _ => True) wc v11 (byts xs) ∧ RowB wc row1 A1 xs.length ∧ (∀ k, row1 = some k → wo.heap.size < k) ∧ Below w.heap.size w wc ∧ Rdr wc g A' c' b (i' : Int)
    ∧ Rep (fun k => n2 ≤ k ∧ k ≠ g ∧ k < wo.heap.size) wc (.slice A' b.length c') (byts b) ∧ wc.heap[wo.heap.size]? = some (.cells #[.slice A b.length c, .int .i64 (i' : Int)] 28 (0, 0))
def wO (b : List UInt8) (i : Nat) (n : Int) : Bool := wid n && tk b i n
def wX (b : List UInt8) (i : Nat) (n : Int) : Nat := if wid n && tk b i n then wv (tkB b i n) else 0
def wI (b : List UInt8) (i : Nat) (n : Int) : Nat := if wid n && tk b i n then tkI b i n else i
theorem wX_eq (b : List UInt8) (i : Nat) (n : Int) : (if wid n then wv (tkB b i n) else 0) = wX b i n := by
  unfold wX tkB
  cases wid n <;> cases tk b i n <;> simp [wv]
theorem wI_eq (b : List UInt8) (i : Nat) (n : Int) : (if wid n then tkI b i n else i) = wI b i n := by
  unfold wI tkI
  cases wid n <;> cases tk b i n <;> simp
theorem wI_le (b : List UInt8) (i : Nat) (n : Int) (hi : i ≤ b.length) : wI b i n ≤ b.length := by
  unfold wI
  split
  · exact tkI_le b i n hi
  · exact hi
theorem Word_any2 (S : Nat → Prop) (g : Nat) (A : Option Addr) (c : Nat) (b : List UInt8) (i : Nat) (n : Int) (w : World) (hx : Rdr w g A c b i) (hr : Rep S w (.slice A b.length c) (byts b)) (hS : ∀ k, S k → k ≠ g) (hi : i ≤ b.length) (hb : b.length ≤ 1000) :
    Calls Try.prog 8 #[.pointer (some ⟨g, 0, none⟩), .int .i64 n] w
      fun ev w' => ev = .returned (.tuple #[.int .u64 (wX b i n : Int), .bool (wO b i n)]) ∧ Rdr w' g A c b (wI b i n : Int) ∧ w.grownBy w' (some g) :=
  (Word_any S g A c b i n w hx hr hS hi hb).mono fun e w' h => by rw [wX_eq, wI_eq] at h; exact h
theorem refWord_any2 (S : Nat → Prop) (A : Option Addr) (c : Nat) (b : List UInt8) (i : Nat) (n : Int) (w : World) (hr : Rep S w (.slice A b.length c) (byts b)) (hi : i ≤ b.length) (hb : b.length ≤ 1000) :
    Calls Try.prog 9 #[.agg #[.slice A b.length c, .int .i64 (i : Int)], .int .i64 n] w
      fun ev w' => ev = .returned (.tuple #[.agg #[.slice A b.length c, .int .i64 (wI b i n : Int)], .int .u64 (wX b i n : Int), .bool (wO b i n)]) ∧ Below w.heap.size w w' :=
  refWord_any S A c b i n w hr hi hb
theorem tkB_rest (b : List UInt8) (i : Nat) : tkB b i ((b.length : Int) - i) = tkB b i ((b.length : Int) - i) := rfl
theorem sw_close {w wo w9 w10 : World} {n2 g B1 B2 : Nat} {A A' : Option Addr} {c c' : Nat} {b xs : List UInt8} {v10 v11 old : Value} {ob : Bool} {xv : Int} {i' : Nat} (hgo9 : wo.heap.size < w9.heap.size) (hwo : w.heap.size ≤ wo.heap.size) (hgo : g < wo.heap.size) (hbl9 : Below w.heap.size w w9)
    (hrd : Rdr w9 g A' c' b (i' : Int)) (hrp : Rep (fun k => n2 ≤ k ∧ k ≠ g ∧ k < wo.heap.size) w9 (.slice A' b.length c') (byts b)) (hrr9 : w9.heap[wo.heap.size]? = some (.cells #[.slice A b.length c, old] 28 (0, 0)))
    (ho1 : Own (fun _ => False) w9 B1 5 v10 1 (xs.map byteCell)) (hB1 : wo.heap.size < B1) (hbl2 : Below w9.heap.size w9 w10) (ho2 : Own (fun _ => False) w10 B2 5 v11 1 (xs.map byteCell)) (hB2 : w9.heap.size ≤ B2) (hi : i' ≤ b.length) (hx : xs.length ≤ 1000) :
    SwR w wo n2 g A A' c c' b v10 v11 (.bool ob) (.bool ob) (.int .u64 xv) (.int .u64 xv) ((w10.setCell ⟨wo.heap.size, 0, none⟩ (.slice A b.length c)).setCell ⟨wo.heap.size, 1, none⟩ (.int .i64 (i' : Int))) := by
  have hW : ∀ k, k ≠ wo.heap.size → ((w10.setCell ⟨wo.heap.size, 0, none⟩ (.slice A b.length c)).setCell ⟨wo.heap.size, 1, none⟩ (.int .i64 (i' : Int))).heap[k]? = w10.heap[k]? := fun k hk =>
    (Below.heap_setCell _ _ _ _ hk).trans (Below.heap_setCell _ _ _ _ hk)
  have hrr10 := (hbl2.block wo.heap.size hgo9).trans hrr9
  have hWr := blk_set2 hrr10 (.slice A b.length c) (.int .i64 (i' : Int))
  have hbW : Below w.heap.size w ((w10.setCell ⟨wo.heap.size, 0, none⟩ (.slice A b.length c)).setCell ⟨wo.heap.size, 1, none⟩ (.int .i64 (i' : Int))) := bl_set (bl_set (bl_then hbl9 hbl2) hwo _) hwo _
  generalize ((w10.setCell ⟨wo.heap.size, 0, none⟩ (.slice A b.length c)).setCell ⟨wo.heap.size, 1, none⟩ (.int .i64 (i' : Int))) = W at hW hWr hbW ⊢
  have h1 := ho1.bytes_slice
  obtain ⟨A1, k1, rfl, _, _⟩ := h1
  have h2 := ho2.bytes_slice
  obtain ⟨A3, k3, rfl, _, _⟩ := h2
  obtain ⟨row1, hr1, hr2⟩ := own_rowb rfl ho1
  refine ⟨A1, A3, k1, k3, xs, ob, xv, i', row1, rfl, rfl, rfl, rfl, rfl, rfl, hi, hx, ?_, ?_, ?_, ?_, hbW, ?_, ?_, hWr⟩
  · exact (ho1.bytes_rep).move' fun k hk hl => ⟨trivial, (hW k (by omega)).trans (hbl2.block k hl)⟩
  · exact (ho2.bytes_rep).move' fun k hk hl => ⟨trivial, hW k (by omega)⟩
  · exact hr2.kept fun k hk hl => (hW k (by have := (hr1 k hk).1; omega)).trans (hbl2.block k hl)
  · intro k hk; have := (hr1 k hk).1; omega
  · exact ((hW g (by omega)).trans (hbl2.block g (blk_lt hrd))).trans hrd
  · exact hrp.move fun k hk hl => (hW k (by omega)).trans (hbl2.block k hl)
set_option maxRecDepth 100000 in
set_option maxHeartbeats 10000000 in
theorem law_calls (S S' : Nat → Prop) (A AL : Option Addr) (c cl : Nat) (b : List UInt8) (ops : List (Int × Int)) (w : World) (hr : Rep S w (.slice A b.length c) (byts b)) (hl : Rep S' w (.slice AL ops.length cl) (.sl 2 (opCells ops))) :
    Calls Try.prog 3 #[.slice A b.length c, .slice AL ops.length cl] w fun e w' => e = .returned (.bool true) ∧ Below w.heap.size w w' := by
  have HR := Lib.hid hr
  have HL := Lib.hid hl
  clear hr hl
  by_cases c1 : 300 < b.length
  · go_enter Try.func3, Try.ntmps3
    go_upto_if 28 with (go_at_call 4; go_must (refine (awake_any _).mono ?_; rintro e w1 ⟨rfl, h1⟩; have B1 := Lib.hid h1; clear h1))
    go_wp2_with (go_at_call 4; go_must (refine (awake_any _).mono ?_; rintro e w2 ⟨rfl, h2⟩; have B2 := Lib.hid h2; clear h2))
    go_ret
    exact ⟨rfl, bl_then B1.out B2.out⟩
  · by_cases c2 : 100 < ops.length
    · go_enter Try.func3, Try.ntmps3
      go_upto_if 28 with (go_at_call 4; go_must (refine (awake_any _).mono ?_; rintro e w1 ⟨rfl, h1⟩; have B1 := Lib.hid h1; clear h1))
      go_wp2_with (go_at_call 4; go_must (refine (awake_any _).mono ?_; rintro e w2 ⟨rfl, h2⟩; have B2 := Lib.hid h2; clear h2))
      go_ret
      exact ⟨rfl, bl_then B1.out B2.out⟩
    · go_enter Try.func3, Try.ntmps3
      go_wp2_with (first
        | (go_at_call 4; go_must (refine (awake_any _).mono ?_; rintro e w1 ⟨rfl, h1⟩; have B1 := Lib.hid h1; clear h1))
        | (at_builtin; go_must (refine wp_append_bytes (B := w1.heap.size) rfl _ _ rfl Try.underlying22 info5 _ [] b _ rfl rfl (own_lit_bytes' [] rfl (Nat.le_refl _) rfl (by decide) rfl) (HR.out.frame (bl_alloc B1.out _) (fun _ _ h => h)) (by simp) (by simp; omega) ?_; intro v2 w2 ho2 hbl2 hg2 hat2; have B2 := Lib.hid (hbl2 _ (bl_alloc (bl_refl _) _)); obtain ⟨A2, c2', rfl, _, _⟩ := ho2.bytes_slice; have O2 := Lib.hid ho2; clear hg2 hat2 ho2 hbl2))
        | (go_at_call 5; go_must (refine (New_any (fun k => w1.heap.size ≤ k) _ _ b _ O2.out.bytes_rep (by omega)).mono ?_; rintro e w3 ⟨g, A', c', rfl, hg, hrd, hrp, hbl⟩; have RD3 := Lib.hid hrd; have RP3 := Lib.hid hrp; have B3 := Lib.hid hbl; clear hrd hrp hbl)))
      have hrow := own_rowb rfl O2.out
      obtain ⟨row, hrow1, hrow2⟩ := hrow
      have R1 := Lib.hid hrow1
      have R2 := Lib.hid (hrow2.kept (w' := w3) (fun k _ hk => B3.out.block k hk))
      clear hrow1 hrow2
      go_loopw [7] (fun t wr => ∃ k : Nat, k ≤ b.length ∧ t = .int .i64 (k : Int) ∧ w3.grownBy wr row ∧ RowB wr row A2 b.length) (fun t _ => b.length - (intOf t).toNat)
      case atStart => exact ⟨0, Nat.zero_le _, rfl, gr_refl _ _, R2.out⟩
      case round =>
        obtain ⟨k, hk, rfl, hgr, hrb⟩ := hrel
        by_cases hlt : k < b.length
        · obtain ⟨g', rfl, rfl, hby⟩ := hrb (by omega)
          obtain ⟨x, d0, z0⟩ := hby.at k hlt
          obtain ⟨y, hy⟩ := byte_succ x
          have hx2 := UInt8.toNat_lt x
          have HBY := Lib.hid hby
          have HGR := Lib.hid hgr
          clear hgr hby hrb
          go_wp2
          go_roundw
          case rel => exact ⟨k + 1, by omega, by go_num, gr_set HGR.out _ _, fun _ => ⟨g', rfl, rfl, HBY.out.set k y⟩⟩
          case measure => simp [intOf]; omega
        · have hke : k = b.length := by omega
          subst hke
          have hbw : Below w1.heap.size w1 wr := bl_grown (B2.out.trans (B3.out.mono B2.out.size)) hgr (fun k hk => (R1.out k hk).1)
          have hne : ∀ k, w2.heap.size ≤ k → some k ≠ row := fun k hk e => by have := (R1.out k e.symm).2; omega
          obtain ⟨wo, rfl⟩ : ∃ wo : World, wo = wr := ⟨_, rfl⟩
          have RD := Lib.hid ((hgr.block g (blk_lt RD3.out) (hne g hg)).trans RD3.out)
          have RP := Lib.hid (RP3.out.grown hgr (fun k hk => hne k hk.1))
          have BW := Lib.hid (bl_then B1.out hbw)
          clear hgr hrb hbw
          go_wp2
          have RP' := Lib.hid (RP.out.now.mono (S' := fun k => w2.heap.size ≤ k ∧ k ≠ g ∧ k < wo.heap.size) (fun k hk _ => ⟨hk.1.1, hk.1.2, hk.2⟩))
          have hgo : g < wo.heap.size := blk_lt RD.out
          have hgw : w.heap.size ≤ g := by have := B1.out.size; have := B2.out.size; omega
          go_loopw [9] (fun t wq => ∃ k i : Nat, k ≤ ops.length ∧ i ≤ b.length ∧ t = .int .i64 (k : Int) ∧ Below w.heap.size w wq ∧ Rdr wq g A' c' b (i : Int) ∧ Rep (fun k => w2.heap.size ≤ k ∧ k ≠ g ∧ k < wo.heap.size) wq (.slice A' b.length c') (byts b) ∧ wq.heap[wo.heap.size]? = some (.cells #[.slice A b.length c, .int .i64 (i : Int)] 28 (0, 0))) (fun t _ => ops.length - (intOf t).toNat)
          case atStart => exact ⟨0, 0, Nat.zero_le _, Nat.zero_le _, rfl, bl_alloc BW.out _, alloc_keep RD.out _, RP'.out.old (bl_alloc (bl_refl _) _), new_block _ _⟩
          case round =>
            obtain ⟨k, i, hk, hi, rfl, hbl, hrd, hrp, hrr⟩ := hrel
            by_cases hlt : k < ops.length
            · obtain ⟨ao, rfl, o1, o2, o3, o4⟩ := ops_at (HL.out.old hbl) k hlt
              generalize hkd : ops[k].1 = kd at o1
              generalize hnn : ops[k].2 = nn at o2 o3 o4
              have hgo2 : wo.heap.size < wr.heap.size := blk_lt hrr
              have q0 := blk_cell hrr 0; have q1 := blk_cell hrr 1; have qz0 := blk_frozen hrr 0; have qz1 := blk_frozen hrr 1; simp only [List.getElem?_toArray, List.getElem?_cons_zero, List.getElem?_cons_succ] at q0 q1
              have HNN := Lib.hid hnn
              have Hbl := Lib.hid hbl; have Hrd := Lib.hid hrd; have Hrp := Lib.hid hrp; have Hrr := Lib.hid hrr; clear hbl hrd hrp hrr
              clear hkd hnn
              go_upto_block 4 with (fail)
              go_cut [10, 11, 12, 13, 14, 15] (fun v10 v11 v12 v13 v14 v15 wc => SwR w wo w2.heap.size g A A' c c' b v10 v11 v12 v13 v14 v15 wc)
              case first =>
                by_cases k0 : kd = 0
                · have k0b : (kd == 0) = true := by simp [k0]
                  clear k0
                  go_wp2_with (go_at_call 6; go_must (refine (Take_any _ g A' c' b i nn _ Hrd.out Hrp.out (fun k hk => hk.2.1) hi (by omega)).mono ?_; rintro e w9 ⟨v, rfl, ho, hrd, hgr⟩))
                  have hne9 : ∀ k, k ≠ g → some k ≠ some g := fun k h e => h (by injection e)
                  have hrr9 := (hgr.block wo.heap.size (blk_lt Hrr.out) (hne9 _ (by omega))).trans Hrr.out
                  have hbl9 := bl_grown Hbl.out hgr (fun k e => by injection e; omega)
                  have hrp9 := Hrp.out.grown hgr (fun k hk => hne9 _ hk.2.1)
                  have ho9 := ho.bytes_slice
                  obtain ⟨A1, k1, rfl, hk1, _⟩ := ho9
                  obtain ⟨ao', h, p1, p2, p3, p4⟩ := ops_at (HL.out.old hbl9) k hlt
                  cases h
                  rw [HNN.out] at p2 p3 p4
                  clear q0 q1 qz0 qz1 o1 o2 o3 o4 p1 hne9
                  have q0 := blk_cell hrr9 0; have q1 := blk_cell hrr9 1; have qz0 := blk_frozen hrr9 0; have qz1 := blk_frozen hrr9 1; simp only [List.getElem?_toArray, List.getElem?_cons_zero, List.getElem?_cons_succ] at q0 q1
                  have hgo9 : wo.heap.size < w9.heap.size := blk_lt hrr9
                  have Hrr9 := Lib.hid hrr9; have Hbl9 := Lib.hid hbl9; have Hrp9 := Lib.hid hrp9; have Ho := Lib.hid ho; have Hrd := Lib.hid hrd; have Hgr := Lib.hid hgr; clear hrr9 hbl9 hrp9 ho hrd hgr
                  go_region_with (go_at_call 7; refine (refTake_any _ A c b i nn _ (HR.out.old (bl_drew Hbl9.out)) hi (by omega)).mono ?_; rintro e w10 ⟨v2, rfl, ho2, hbl2⟩; have hrr10 := (hbl2.block wo.heap.size hgo9).trans Hrr9.out; have x0 := blk_cell hrr10 0; have x1 := blk_cell hrr10 1; have xz0 := blk_frozen hrr10 0; have xz1 := blk_frozen hrr10 1; have hl10 := blk_lt hrr10; simp only [List.getElem?_toArray, List.getElem?_cons_zero, List.getElem?_cons_succ] at x0 x1; have Hrr10 := Lib.hid hrr10; clear hrr10)
                  all_goals
                    go_wp2_with fail
                    go_meet
                    case rel => exact sw_close hgo9 (by have := BW.out.size; omega) hgo Hbl9.out Hrd.out Hrp9.out Hrr9.out Ho.out hgo2 ((bl_drew (bl_refl _)).trans hbl2) ho2 (Nat.le_refl _) (tkI_le b i nn hi) (by have := tkB_le b i nn; omega)
                · have k0b : (kd == 0) = false := by simp [k0]
                  by_cases k1 : kd = 1
                  · have k1b : (kd == 1) = true := by simp [k1]
                    clear k0 k1
                    go_wp2_with (go_at_call 8; go_must (refine (Word_any2 _ g A' c' b i nn _ Hrd.out Hrp.out (fun k hk => hk.2.1) hi (by omega)).mono ?_; rintro e w9 ⟨rfl, hrd, hgr⟩))
                    have hne9 : ∀ k, k ≠ g → some k ≠ some g := fun k h e => h (by injection e)
                    have hrr9 := (hgr.block wo.heap.size (blk_lt Hrr.out) (hne9 _ (by omega))).trans Hrr.out
                    have hbl9 := bl_grown Hbl.out hgr (fun k e => by injection e; omega)
                    have hrp9 := Hrp.out.grown hgr (fun k hk => hne9 _ hk.2.1)
                    obtain ⟨ao', h, p1, p2, p3, p4⟩ := ops_at (HL.out.old hbl9) k hlt
                    cases h
                    rw [HNN.out] at p2 p3 p4
                    clear q0 q1 qz0 qz1 o1 o2 o3 o4 p1 hne9
                    have q0 := blk_cell hrr9 0; have q1 := blk_cell hrr9 1; have qz0 := blk_frozen hrr9 0; have qz1 := blk_frozen hrr9 1; simp only [List.getElem?_toArray, List.getElem?_cons_zero, List.getElem?_cons_succ] at q0 q1
                    have hgo9 : wo.heap.size < w9.heap.size := blk_lt hrr9
                    have hsz9 : wr.heap.size ≤ w9.heap.size := hgr.size
                    have Hrr9 := Lib.hid hrr9; have Hbl9 := Lib.hid hbl9; have Hrp9 := Lib.hid hrp9; have Hrd := Lib.hid hrd; have Hgr := Lib.hid hgr; clear hrr9 hbl9 hrp9 hrd hgr
                    go_region_with (go_at_call 9; refine (refWord_any2 _ A c b i nn _ (HR.out.old (bl_drew Hbl9.out)) hi (by omega)).mono ?_; rintro e w10 ⟨rfl, hbl2⟩; have hrr10 := (hbl2.block wo.heap.size hgo9).trans Hrr9.out; have x0 := blk_cell hrr10 0; have x1 := blk_cell hrr10 1; have xz0 := blk_frozen hrr10 0; have xz1 := blk_frozen hrr10 1; have hl10 := blk_lt hrr10; simp only [List.getElem?_toArray, List.getElem?_cons_zero, List.getElem?_cons_succ] at x0 x1; have Hrr10 := Lib.hid hrr10; clear hrr10)
                    all_goals
                      go_wp2_with fail
                      go_meet
                      case rel => exact sw_close hgo9 (by have := BW.out.size; omega) hgo Hbl9.out Hrd.out Hrp9.out Hrr9.out (xs := []) (B1 := wr.heap.size) (Own.nil _ _ _ _ _) hgo2 ((bl_drew (bl_refl _)).trans hbl2) (B2 := w9.heap.size) (Own.nil _ _ _ _ _) (Nat.le_refl _) (wI_le b i nn hi) (by simp)
                  · have k1b : (kd == 1) = false := by simp [k1]
                    clear k0 k1
                    go_upto_region 23 with (go_at_call 10; go_must (refine (Rest_any _ g A' c' b i _ Hrd.out Hrp.out (fun k hk => hk.2.1) hi (by omega)).mono ?_; rintro e w9 ⟨v, rfl, ho, hrd, hgr⟩))
                    have hne9 : ∀ k, k ≠ g → some k ≠ some g := fun k h e => h (by injection e)
                    have hrr9 := (hgr.block wo.heap.size (blk_lt Hrr.out) (hne9 _ (by omega))).trans Hrr.out
                    have hbl9 := bl_grown Hbl.out hgr (fun k e => by injection e; omega)
                    have hrp9 := Hrp.out.grown hgr (fun k hk => hne9 _ hk.2.1)
                    have ho9 := ho.bytes_slice
                    obtain ⟨A1, k1, rfl, hk1, _⟩ := ho9
                    obtain ⟨ao', h, p1, p2, p3, p4⟩ := ops_at (HL.out.old hbl9) k hlt
                    cases h
                    rw [HNN.out] at p2 p3 p4
                    clear q0 q1 qz0 qz1 o1 o2 o3 o4 p1 hne9
                    have q0 := blk_cell hrr9 0; have q1 := blk_cell hrr9 1; have qz0 := blk_frozen hrr9 0; have qz1 := blk_frozen hrr9 1; simp only [List.getElem?_toArray, List.getElem?_cons_zero, List.getElem?_cons_succ] at q0 q1
                    have hgo9 : wo.heap.size < w9.heap.size := blk_lt hrr9
                    have hsz9 : wr.heap.size ≤ w9.heap.size := hgr.size
                    have Hrr9 := Lib.hid hrr9; have Hbl9 := Lib.hid hbl9; have Hrp9 := Lib.hid hrp9; have Ho := Lib.hid ho; have Hrd := Lib.hid hrd; have Hgr := Lib.hid hgr; clear hrr9 hbl9 hrp9 ho hrd hgr
                    go_wp2_with (go_at_call 7; go_must (refine (refTake_any _ A c b i _ _ (HR.out.old Hbl9.out) hi (by omega)).mono ?_; rintro e w10 ⟨v2, rfl, ho2, hbl2⟩; have hrr10 := (hbl2.block wo.heap.size hgo9).trans Hrr9.out; have x0 := blk_cell hrr10 0; have x1 := blk_cell hrr10 1; have xz0 := blk_frozen hrr10 0; have xz1 := blk_frozen hrr10 1; have hl10 := blk_lt hrr10; simp only [List.getElem?_toArray, List.getElem?_cons_zero, List.getElem?_cons_succ] at x0 x1; have Hrr10 := Lib.hid hrr10; clear hrr10))
                    all_goals
                      go_wp2_with fail
                      go_meet
                      case rel => exact sw_close hgo9 (by have := BW.out.size; omega) hgo Hbl9.out Hrd.out Hrp9.out Hrr9.out Ho.out hgo2 hbl2 ho2 (Nat.le_refl _) (tkI_le b i _ hi) (by have := tkB_le b i ((b.length : Int) - i); omega)
              case rest =>
                obtain ⟨A1, A3, k1, k3, xs, ob, xv, i', row1, rfl, rfl, rfl, rfl, rfl, rfl, hi', hxl, hr1, hr3, hrow1, hrow2, hbl, hrd, hrp, hrr⟩ := hcut
                have hgo3 : wo.heap.size < wc.heap.size := blk_lt hrr
                clear q0 q1 qz0 qz1 o1 o2 o3 o4
                have q0 := blk_cell hrr 0; have q1 := blk_cell hrr 1; have qz0 := blk_frozen hrr 0; have qz1 := blk_frozen hrr 1; simp only [List.getElem?_toArray, List.getElem?_cons_zero, List.getElem?_cons_succ] at q0 q1
                have hsame : ∀ n, Calls Try.prog 11 #[.slice A1 xs.length k1, .slice A3 xs.length k3] (wc.drewN n) fun e w'' => e = .returned (.bool true) ∧ ∃ m, w'' = wc.drewN m := fun n => Calls.quiet_of ((Same01_any _ _ _ _ xs xs (wc.drewN n) (hr1.old (bl_drewN (bl_refl _) n)) (hr3.old (bl_drewN (bl_refl _) n))).mono fun e w' h => by simpa using h)
                have hat : ∀ n, Calls Try.prog 12 #[.pointer (some ⟨g, 0, none⟩)] (wc.drewN n) fun e w'' => e = .returned (.int .i64 (i' : Int)) ∧ ∃ m, w'' = wc.drewN m := fun n => Calls.quiet_of_same (At_any g A' c' b i' (wc.drewN n) hrd)
                have hleft : ∀ n, Calls Try.prog 13 #[.pointer (some ⟨g, 0, none⟩)] (wc.drewN n) fun e w'' => e = .returned (.int .i64 ((b.length : Int) - i')) ∧ ∃ m, w'' = wc.drewN m := fun n => Calls.quiet_of (Left_any g A' c' b i' (wc.drewN n) hrd (by omega) hi')
                have hob : (ob != ob) = false := by cases ob <;> rfl
                have Hsame := Lib.hid hsame; have Hat := Lib.hid hat; have Hleft := Lib.hid hleft; have Hr1 := Lib.hid hr1; have Hr3 := Lib.hid hr3; have Hrow1 := Lib.hid hrow1; have Hrow2 := Lib.hid hrow2; have Hbl := Lib.hid hbl; have Hrd := Lib.hid hrd; have Hrp := Lib.hid hrp; have Hrr := Lib.hid hrr; clear hsame hat hleft hr1 hr3 hrow1 hrow2 hbl hrd hrp hrr
                go_wp2
                go_quiet (first | (go_at_call 11; exact Hsame.out _) | (go_at_call 12; exact Hat.out _) | (go_at_call 13; exact Hleft.out _))
                go_wp2
                clear q0 q1 qz0 qz1
                go_loopw [16] (fun t wq => ∃ j : Nat, j ≤ xs.length ∧ t = .int .i64 (j : Int) ∧ wc.grownBy wq row1 ∧ RowB wq row1 A1 xs.length) (fun t _ => xs.length - (intOf t).toNat)
                case atStart => exact ⟨0, Nat.zero_le _, rfl, gr_drewN (gr_refl _ _) _, Hrow1.out.kept (fun _ _ _ => rfl)⟩
                case round =>
                  obtain ⟨j, hj, rfl, hgr, hrb⟩ := hrel
                  by_cases hlt3 : j < xs.length
                  · obtain ⟨g', rfl, rfl, hby⟩ := hrb (by omega)
                    obtain ⟨x, d0, z0⟩ := hby.at j hlt3
                    obtain ⟨y, hy⟩ := byte_succ x
                    have hx2 := UInt8.toNat_lt x
                    have Hby := Lib.hid hby; have Hgr := Lib.hid hgr; clear hby hgr
                    clear hrb
                    go_wp2
                    go_roundw
                    case rel => exact ⟨j + 1, by omega, by go_num, gr_set Hgr.out _ _, fun _ => ⟨g', rfl, rfl, Hby.out.set j y⟩⟩
                    case measure => simp [intOf]; omega
                  · have hke : j = xs.length := by omega
                    have hwo : w.heap.size ≤ wo.heap.size := BW.out.size
                    have hn3 : ∀ k, k ≤ wo.heap.size → some k ≠ row1 := fun k h e => by have := Hrow2.out k e.symm; omega
                    have hbl3 := bl_grown Hbl.out hgr (fun k e => by have := Hrow2.out k e; omega)
                    have hrd3 := (hgr.block g (blk_lt Hrd.out) (hn3 g (by omega))).trans Hrd.out
                    have hrp3 := Hrp.out.grown hgr (fun k hk => hn3 k (by omega))
                    have hrr3 := (hgr.block wo.heap.size (blk_lt Hrr.out) (hn3 _ (Nat.le_refl _))).trans Hrr.out
                    subst hke
                    clear hn3 hgr hrb
                    have Hbl3 := Lib.hid hbl3; have Hrd3 := Lib.hid hrd3; have Hrp3 := Lib.hid hrp3; have Hrr3 := Lib.hid hrr3; clear hbl3 hrd3 hrp3 hrr3
                    go_wp2
                    go_roundw
                    case rel => exact ⟨k + 1, i', by omega, hi', by go_num, Hbl3.out, Hrd3.out, Hrp3.out, Hrr3.out⟩
                    case measure => simp [intOf]; omega
            · have hke : k = ops.length := by omega
              subst hke
              have HBL := Lib.hid hbl
              clear hbl hrd hrp hrr
              go_wp2
              go_ret
              exact ⟨rfl, HBL.out⟩
end Go.Proofs.Ytgmnghnnlnohbaa
