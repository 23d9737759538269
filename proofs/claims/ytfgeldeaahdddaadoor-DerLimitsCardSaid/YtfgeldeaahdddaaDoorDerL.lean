/- The reader's nodes. -/
import Derived.Test.YtfgeldeaahdddaaDoorDerG
import Derived.Test.YtfgeldeaahdddaaDoorDerH
import Derived.Deep.RegionHeld3
set_option linter.unusedVariables false
set_option linter.unusedSimpArgs false
namespace Go.Proofs.YtfgeldeaahdddaaDoor
open Go.RowKit Lx

theorem info26 : (Tryd.prog.info? 26).map (fun i => (i.zero, i.size, i.bytes)) = some (some (.agg #[.int .u8 0, .slice none 0 0, .slice none 0 0]), 3, 56) := by kernel_rfl
theorem node_results {tmps : Array Value} {w : World} {g : Nat} {cs : Array Value} (hp : tmps.getD 6 undef = .pointer (some ⟨g, 0, none⟩)) (hg : w.heap[g]? = some (.cells cs 26 (0, 0))) (hs : cs.size = 3) : (results Tryd.f24 tmps).run Tryd.prog w = .ok (.tuple #[.agg cs, tmps.getD 7 undef]) w :=
  res_cell_tmp (fn := Tryd.f24) rfl hp hg Tryd.underlying26 rfl (by rw [hs]; kernel_rfl)
/-- A node and an error, by value. -/
def NodeE (S : Nat → Prop) (w : World) (v : Value) (r : PR) : Prop :=
  ∃ A1 c1 A2 c2, v = .tuple #[.agg #[.int .u8 (r.node.tag.toNat : Int), .slice A1 r.node.bs.length c1, .slice A2 r.node.kids.length c2], errV r.code r.at_] ∧ r.node.bs.length ≤ c1 ∧ r.node.kids.length ≤ c2
    ∧ Rep S w (.slice A1 r.node.bs.length c1) (byts r.node.bs) ∧ Rep S w (.slice A2 r.node.kids.length c2) (.sl 3 (Tre.cellsL r.node.kids))
theorem NodeE.err (S : Nat → Prop) (w : World) (c a : Nat) (h : c ≠ 0) : NodeE S w (.tuple #[.agg #[.int .u8 0, .slice none 0 0, .slice none 0 0], .iface 70 (.agg #[.int .i64 (c : Int), .int .i64 (a : Int)])]) (.err c a) :=
  ⟨none, 0, none, 0, by rw [show errV (PR.err c a).code (PR.err c a).at_ = _ from errV_pos c a h]; rfl, Nat.le_refl _, Nat.le_refl _, .nil _ _ _, .nil _ _ _⟩
def NodeSaid (d : Nat) : Prop := ∀ (S : Nat → Prop) (g : Nat) (A : Option Addr) (c : Nat) (b : List UInt8) (i e : Nat) (ei ab : Int) (w : World), ei = (e : Int) → ab = 8 - (d : Int) → Rep S w (.slice A b.length c) (byts b) → (∀ k, S k → k ≠ g) → Rdr w g A c b i → e ≤ b.length → i ≤ e → b.length ≤ 2000000 → d ≤ 8 →
    Calls Tryd.prog 24 #[.pointer (some ⟨g, 0, none⟩), .int .i64 ei, .int .i64 ab] w
      fun ev w' => ∃ v, ev = .returned v ∧ NodeE (fun k => w.heap.size ≤ k) w' v (pread d b i e) ∧ w.grownBy w' (some g) ∧ ∃ j : Int, Rdr w' g A c b j ∧ ((pread d b i e).code = 0 → j = (pread d b i e).next)
set_option maxRecDepth 100000 in
set_option maxHeartbeats 2000000 in
theorem node_zero : NodeSaid 0 := by
  intro S g A c b i e ei ab w hei hab hr hS hx he hi hb hd
  subst hei
  have h8 : 8 ≤ ab := by omega
  clear hab
  obtain ⟨_, _, h, hc, hm, hp⟩ := byts_parts hr
  cases h
  unfold Rdr at hx
  have q0 := blk_cell hx 0
  have q1 := blk_cell hx 1
  simp only [List.getElem?_toArray, List.getElem?_cons_zero, List.getElem?_cons_succ] at q0 q1
  have HX := Lib.hid hx
  have HP := Lib.hid hp
  have hgs := blk_lt hx
  clear hx hp hr
  by_cases c1 : e ≤ i
  · have HV := Lib.hid (show pread 0 b i e = .err 3 e by unfold pread; rw [if_pos c1])
    go_enter Tryd.func24, Tryd.ntmps24
    go_wp2_with (go_at_call 23; go_must (refine (New_any _ _ _).mono ?_; rintro e w1 ⟨rfl, rfl⟩))
    refine bodyPost_ret (node_results rfl (new_block _ _) rfl) rfl ⟨_, rfl, by rw [HV.out]; exact NodeE.err _ _ 3 e (by decide), gr_alloc (gr_refl _ _) _, _, alloc_keep HX.out _, fun h => by rw [HV.out] at h; simp [PR.err] at h⟩
  · have hlt : i < b.length := by omega
    obtain ⟨ad, rfl, d0⟩ := HP.out i hlt
    have qd0 := World.block_lt_of_cell? w _ d0
    have hx256 := UInt8.toNat_lt b[i]
    have hgd : b.getD i 0 = b[i] := by simp [List.getD_eq_getElem?_getD, List.getElem?_eq_getElem hlt]
    have HG := Lib.hid hgd
    clear hgd
    cases ht : tagOk b[i]
    · have HV := Lib.hid (show pread 0 b i e = .err 5 i by unfold pread; rw [if_neg c1, HG.out, ht]; rfl)
      go_enter Tryd.func24, Tryd.ntmps24
      go_wp2
      go_region_held3 (fun w' => w'.cell? ⟨g, 0, none⟩ = some (.slice (some ad) b.length c) ∧ w'.cell? ⟨g, 1, none⟩ = some (.int .i64 (i : Int)) ∧ w'.cell? (ad.add i) = some (.int .u8 ((b[i].toNat : Nat) : Int))) (go_keep) ((fail))
      go_wp2_with (first | (go_at_call 36; go_must (refine (right_any b[i] _).mono ?_; rw [ht]; rintro e w1 ⟨rfl, rfl⟩)) | (go_at_call 23; go_must (refine (New_any _ _ _).mono ?_; rintro e w1 ⟨rfl, rfl⟩)))
      refine bodyPost_ret (node_results rfl (by first | exact new_block _ _ | exact alloc_keep (new_block _ _) _ | exact alloc_keep (w := w.alloc _) (new_block w _) _) rfl) rfl ⟨_, rfl, by rw [HV.out]; exact NodeE.err _ _ 5 i (by decide), gr_drew (gr_alloc (gr_alloc (gr_refl _ _) _) _), _, alloc_keep (alloc_keep HX.out _) _, fun h => by rw [HV.out] at h; simp [PR.err] at h⟩
    · have HV := Lib.hid (show pread 0 b i e = .err 2 i by unfold pread; rw [if_neg c1, HG.out, ht]; rfl)
      go_enter Tryd.func24, Tryd.ntmps24
      go_wp2
      go_region_held3 (fun w' => w'.cell? ⟨g, 0, none⟩ = some (.slice (some ad) b.length c) ∧ w'.cell? ⟨g, 1, none⟩ = some (.int .i64 (i : Int)) ∧ w'.cell? (ad.add i) = some (.int .u8 ((b[i].toNat : Nat) : Int))) (go_keep) ((fail))
      go_wp2_with (first | (go_at_call 36; go_must (refine (right_any b[i] _).mono ?_; rw [ht]; rintro e w1 ⟨rfl, rfl⟩)) | (go_at_call 23; go_must (refine (New_any _ _ _).mono ?_; rintro e w1 ⟨rfl, rfl⟩)))
      refine bodyPost_ret (node_results rfl (by first | exact new_block _ _ | exact alloc_keep (new_block _ _) _ | exact alloc_keep (w := w.alloc _) (new_block w _) _) rfl) rfl ⟨_, rfl, by rw [HV.out]; exact NodeE.err _ _ 2 i (by decide), gr_drew (gr_alloc (gr_alloc (gr_refl _ _) _) _), _, alloc_keep (alloc_keep HX.out _) _, fun h => by rw [HV.out] at h; simp [PR.err] at h⟩
end Go.Proofs.YtfgeldeaahdddaaDoor
