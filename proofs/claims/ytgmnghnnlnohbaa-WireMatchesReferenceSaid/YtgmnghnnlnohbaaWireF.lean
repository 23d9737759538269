/- awake is true. -/
import Derived.Test.YtgmnghnnlnohbaaWireE
set_option linter.unusedVariables false
set_option linter.unusedSimpArgs false
namespace Go.Proofs.Ytgmnghnnlnohbaa
open Go.RowKit Lx

def l3 : List UInt8 := [1, 2, 3]
theorem word_a (S : Nat → Prop) (g : Nat) (A : Option Addr) (c : Nat) (w : World) (hx : Rdr w g A c l3 0) (hr : Rep S w (.slice A l3.length c) (byts l3)) (hS : ∀ k, S k → k ≠ g) :
    Calls Try.prog 8 #[.pointer (some ⟨g, 0, none⟩), .int .i64 2] w
      fun ev w' => ev = .returned (.tuple #[.int .u64 258, .bool true]) ∧ Rdr w' g A c l3 2 ∧ w.grownBy w' (some g) :=
  by
  have h0 : wid 2 = true := by decide
  have h1 : wv (tkB l3 0 2) = 258 := by decide
  have h2 : tkI l3 0 2 = 2 := by decide
  have h3 : tk l3 0 2 = true := by decide
  have h := Word_any S g A c l3 0 2 w hx hr hS (by decide) (by decide)
  rw [h0, h1, h2, h3] at h
  exact h
theorem word_b (S : Nat → Prop) (g : Nat) (A : Option Addr) (c : Nat) (w : World) (hx : Rdr w g A c l3 2) (hr : Rep S w (.slice A l3.length c) (byts l3)) (hS : ∀ k, S k → k ≠ g) :
    Calls Try.prog 8 #[.pointer (some ⟨g, 0, none⟩), .int .i64 2] w
      fun ev w' => ev = .returned (.tuple #[.int .u64 0, .bool false]) ∧ Rdr w' g A c l3 2 ∧ w.grownBy w' (some g) :=
  by
  have h0 : wid 2 = true := by decide
  have h1 : wv (tkB l3 2 2) = 0 := by decide
  have h2 : tkI l3 2 2 = 2 := by decide
  have h3 : tk l3 2 2 = false := by decide
  have h := Word_any S g A c l3 2 2 w hx hr hS (by decide) (by decide)
  rw [h0, h1, h2, h3] at h
  exact h
theorem left_a (g : Nat) (A : Option Addr) (c : Nat) (w : World) (hx : Rdr w g A c l3 2) :
    Calls Try.prog 13 #[.pointer (some ⟨g, 0, none⟩)] w fun ev w' => ev = .returned (.int .i64 1) ∧ ∃ n, w' = w.drewN n :=
  (Left_any g A c l3 2 w hx (by decide) (by decide)).mono fun e w' h => h
theorem left_b (g : Nat) (A : Option Addr) (c : Nat) (w : World) (hx : Rdr w g A c l3 3) :
    Calls Try.prog 13 #[.pointer (some ⟨g, 0, none⟩)] w fun ev w' => ev = .returned (.int .i64 0) ∧ ∃ n, w' = w.drewN n :=
  (Left_any g A c l3 3 w hx (by decide) (by decide)).mono fun e w' h => h
theorem rest_a (S : Nat → Prop) (g : Nat) (A : Option Addr) (c : Nat) (w : World) (hx : Rdr w g A c l3 2) (hr : Rep S w (.slice A l3.length c) (byts l3)) (hS : ∀ k, S k → k ≠ g) :
    Calls Try.prog 10 #[.pointer (some ⟨g, 0, none⟩)] w
      fun ev w' => ∃ v, ev = .returned v ∧ Own (fun _ => False) w' w.heap.size 5 v 1 (([3] : List UInt8).map byteCell) ∧ Rdr w' g A c l3 3 ∧ w.grownBy w' (some g) :=
  by
  have h1 : tkB l3 2 ((l3.length : Int) - ((2 : Nat) : Int)) = [3] := by decide
  have h2 : tkI l3 2 ((l3.length : Int) - ((2 : Nat) : Int)) = 3 := by decide
  have h := Rest_any S g A c l3 2 w hx hr hS (by decide) (by decide)
  rw [h1, h2] at h
  exact h
theorem same_a (S S' : Nat → Prop) (v v' : Value) (xs : List UInt8) (w : World) (hr : Rep S w v (byts xs)) (hr' : Rep S' w v' (byts xs)) :
    Calls Try.prog 11 #[v, v'] w fun e w' => e = .returned (.bool true) ∧ ∃ n, w' = w.drewN n :=
  (Same01_any S S' v v' xs xs w hr hr').mono fun e w' h => ⟨by simpa using h.1, h.2⟩
set_option maxRecDepth 100000 in
set_option maxHeartbeats 4000000 in
theorem awake_any (w : World) : Calls Try.prog 4 #[] w fun e w' => e = .returned (.bool true) ∧ Below w.heap.size w w' := by
  go_enter Try.func4, Try.ntmps4
  go_wp2_with (first
    | (go_at_call 14; with_reducible refine (put2 _).mono ?_; rintro e w1 ⟨rfl, h1, b1⟩; have H1 := Lib.hid h1; have B1 := Lib.hid b1; clear h1 b1)
    | (go_at_call 14; with_reducible refine (put1 _).mono ?_; rintro e w2 ⟨rfl, rfl⟩)
    | (go_at_call 5; go_must (refine (New_any (fun k => w2.heap.size ≤ k) _ 3 l3 _ (own_lit_bytes' l3 rfl (Nat.le_refl _) rfl (by decide) rfl).bytes_rep (by decide)).mono ?_; rintro e w3 ⟨g, A', c', rfl, hg, hrd, hrp, hbl⟩; have RD := Lib.hid hrd; have RP := Lib.hid hrp; have B2 := Lib.hid ((bl_alloc B1.out _).trans (hbl.mono (by have := B1.out.size; first | (simp; done) | (simp; omega)))); have hgw : w.heap.size < g := (by have h7 := B1.out.size; have h8 := blk_lt H1.out; simp at hg; omega); have H3 := Lib.hid ((hbl.block w.heap.size (by have := B1.out.size; first | (simp; done) | (simp; omega))).trans (alloc_keep H1.out _)); clear hrd hrp hbl)))
  refine (word_a _ g A' c' w3 RD.out RP.out (fun k hk => hk.2)).mono ?_
  rintro e w4 ⟨rfl, hrd4, hgr4⟩
  have RD4 := Lib.hid hrd4
  have RP4 := Lib.hid (RP.out.grown hgr4 (fun k hk e => hk.2 (by injection e)))
  have H4 := Lib.hid ((hgr4.block _ (blk_lt H3.out) (fun e => by injection e; omega)).trans H3.out)
  have G4 := Lib.hid hgr4
  clear hrd4 hgr4
  go_wp2_with (first
    | (go_at_call 8; go_must (refine (word_b _ g A' c' w4 RD4.out RP4.out (fun k hk => hk.2)).mono ?_; rintro e w5 ⟨rfl, hrd5, hgr5⟩; have RD5 := Lib.hid hrd5; have RP5 := Lib.hid (RP4.out.grown hgr5 (fun k hk e => hk.2 (by injection e))); have H5 := Lib.hid ((hgr5.block _ (blk_lt H4.out) (fun e => by injection e; omega)).trans H4.out); have G5 := Lib.hid hgr5; clear hrd5 hgr5))
    | (go_at_call 11; with_reducible show Calls _ _ #[Value.slice (some ⟨w.heap.size, 0, none⟩) 2 2, _] _ _; refine (same_a (fun k => k = w.heap.size) (fun k => w5.heap.size ≤ k) _ _ [1, 2] (w5.alloc (.cells #[.int .u8 1, .int .u8 2] 5)) (two_rep (alloc_keep H5.out _)) (own_lit_bytes' [1, 2] rfl (Nat.le_refl _) rfl (by decide) rfl).bytes_rep).mono ?_; rintro e w6 ⟨rfl, n6, rfl⟩)
    | (go_at_call 12; go_must (refine (At_any g A' c' l3 2 _ ?_).mono ?_; (exact alloc_keep RD5.out _); rintro e w7 ⟨rfl, rfl⟩)))
  refine (left_a g A' c' ((w5.alloc _).drewN n6) (alloc_keep RD5.out _)).mono ?_
  rintro e w8 ⟨rfl, n8, rfl⟩
  have hrp8 : ∀ n, Rep _ ((w5.alloc (.cells #[.int .u8 1, .int .u8 2] 5)).drewN n) _ _ := fun n => RP5.out.old (bl_drewN (bl_alloc (bl_refl _) _) n)
  have RP8 := Lib.hid hrp8
  clear hrp8
  go_wp2_with (first
    | (go_at_call 10; go_must (refine (rest_a _ g A' c' ((w5.alloc _).drewN _) (alloc_keep RD5.out _) (RP8.out _) (fun k hk => hk.2)).mono ?_; rintro e w9 ⟨v9, rfl, ho9, hrd9, hgr9⟩; obtain ⟨A9, c9, rfl, _, _⟩ := ho9.bytes_slice; have O9 := Lib.hid ho9; have RD9 := Lib.hid hrd9; have G9 := Lib.hid hgr9; have H9 := Lib.hid ((hgr9.block w.heap.size (blk_lt (alloc_keep H5.out _)) (fun e => by injection e; omega)).trans (alloc_keep H5.out _)); clear ho9 hrd9 hgr9))
    | (go_at_call 11; go_must (refine (same_a _ (fun k => w9.heap.size ≤ k) _ _ [3] (w9.alloc (.cells #[.int .u8 3] 5)) (O9.out.bytes_rep.old (bl_alloc (bl_refl _) _)) (own_lit_bytes' [3] rfl (Nat.le_refl _) rfl (by decide) rfl).bytes_rep).mono ?_; rintro e w10 ⟨rfl, n10, rfl⟩))
    | (go_at_call 13; go_must (refine (left_b g A' c' ((w9.alloc _).drewN _) (alloc_keep RD9.out _)).mono ?_; rintro e w11 ⟨rfl, n11, rfl⟩)))
  refine (WSame_any (fun k => k = w.heap.size) (fun k => k = w.heap.size) _ _ [1, 2] [1, 2] ((w9.alloc _).drewN _) (two_rep (alloc_keep H9.out _)) (two_rep (alloc_keep H9.out _))).mono ?_
  rw [show decide (([1, 2] : List UInt8) = [1, 2]) = true by decide]
  rintro e w12 ⟨rfl, rfl⟩
  go_wp2_with (go_at_call 15; go_must (refine (WSame_any (fun k => k = w.heap.size) (fun _ => True) _ _ [1, 2] [] ((w9.alloc _).drewN _) (two_rep (alloc_keep H9.out _)) (.nil _ _ _)).mono ?_; rw [show decide (([1, 2] : List UInt8) = []) = false by decide]; rintro e w13 ⟨rfl, rfl⟩))
  go_ret
  have hr : ∀ k, some g = some k → w.heap.size ≤ k := fun k e => by injection e; omega
  exact ⟨rfl, bl_drewN (bl_alloc (bl_grown (bl_drewN (bl_alloc (bl_grown (bl_grown B2.out G4.out hr) G5.out hr) _) _) G9.out hr) _) _⟩
end Go.Proofs.Ytgmnghnnlnohbaa
