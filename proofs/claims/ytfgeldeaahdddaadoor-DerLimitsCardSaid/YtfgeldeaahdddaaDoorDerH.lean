/- pyxref08.read. -/
import Derived.Test.YtfgeldeaahdddaaDoorDerB
import Derived.Test.YtfgeldeaahdddaaDoorDerG
import Derived.Deep.DeepCutAuto
set_option linter.unusedVariables false
set_option linter.unusedSimpArgs false
namespace Go.Proofs.YtfgeldeaahdddaaDoor
open Go.RowKit Lx

theorem info33 : (Tryd.prog.info? 33).map (fun i => (i.zero, i.size, i.bytes)) = some (some (.agg #[.int .u8 0, .slice none 0 0, .slice none 0 0]), 3, 56) := by kernel_rfl
/-- A result of the reference, by value. -/
def ResV (S : Nat → Prop) (w : World) (v : Value) (r : PR) : Prop :=
  ∃ A1 c1 A2 c2, v = .agg #[.int .u8 (r.node.tag.toNat : Int), .slice A1 r.node.bs.length c1, .slice A2 r.node.kids.length c2, .int .i64 (r.next : Int), .int .i64 (r.code : Int), .int .i64 (r.at_ : Int)] ∧ r.node.bs.length ≤ c1 ∧ r.node.kids.length ≤ c2
    ∧ Rep S w (.slice A1 r.node.bs.length c1) (byts r.node.bs) ∧ Rep S w (.slice A2 r.node.kids.length c2) (.sl 3 (Tre.cellsL r.node.kids))
theorem ResV.err (S : Nat → Prop) (w : World) (c a : Nat) : ResV S w (.agg #[.int .u8 0, .slice none 0 0, .slice none 0 0, .int .i64 0, .int .i64 (c : Int), .int .i64 (a : Int)]) (.err c a) :=
  ⟨none, 0, none, 0, rfl, Nat.le_refl _, Nat.le_refl _, .nil _ _ _, .nil _ _ _⟩
/-- An element's cells, that was made behind a row of the call's own. -/
theorem elem_reps {S : Nat → Prop} {wr w1 W : World} {n : Tre} {A1 A2 : Option Addr} {k1 k2 : Nat} {v : Value} {B : Nat} (hlt : ∀ k, v.ownBlock = some k → B ≤ k ∧ k < wr.heap.size)
    (g1 : Rep (fun k => wr.heap.size ≤ k) w1 (.slice A1 n.bs.length k1) (byts n.bs)) (g2 : Rep (fun k => wr.heap.size ≤ k) w1 (.slice A2 n.kids.length k2) (.sl 3 (Tre.cellsL n.kids))) (hb : Below w1.heap.size w1 W) (hS : ∀ k, wr.heap.size ≤ k → S k) :
    ∀ j (h1 : j < [Value.int .u8 ((n.tag.toNat : Nat) : Int), .slice A1 n.bs.length k1, .slice A2 n.kids.length k2].length) (h2 : j < n.cells.length),
      Rep (fun k => S k ∧ some k ≠ v.ownBlock) W ([Value.int .u8 ((n.tag.toNat : Nat) : Int), .slice A1 n.bs.length k1, .slice A2 n.kids.length k2][j]) (n.cells[j]) := by
  have mv : ∀ {x : Value} {q : Cl}, Rep (fun k => wr.heap.size ≤ k) w1 x q → Rep (fun k => S k ∧ some k ≠ v.ownBlock) W x q := fun h => h.move' fun k (hk : wr.heap.size ≤ k) hl => ⟨⟨hS k hk, fun e => by have := (hlt k e.symm).2; omega⟩, hb.block k hl⟩
  intro j h1 h2
  simp only [Tre.cells_eq] at h2 ⊢
  match j, h1, h2 with
  | 0, _, _ => exact .val _
  | 1, _, _ => exact mv g1
  | 2, _, _ => exact mv g2
def ReadSaid (d : Nat) : Prop := ∀ (S : Nat → Prop) (A : Option Addr) (c : Nat) (b : List UInt8) (i e : Nat) (ei ab : Int) (w : World), ei = (e : Int) → ab = 8 - (d : Int) → Rep S w (.slice A b.length c) (byts b) → e ≤ b.length → i ≤ e → b.length ≤ 1000000 → d ≤ 8 →
    Calls Tryd.prog 25 #[.slice A b.length c, .int .i64 (i : Int), .int .i64 ei, .int .i64 ab] w
      fun ev w' => ∃ v, ev = .returned v ∧ ResV (fun k => w.heap.size ≤ k) w' v (pread d b i e) ∧ Below w.heap.size w w'
theorem read_results {tmps : Array Value} {w : World} {g : Nat} {cs : Array Value} (hp : tmps.getD 8 undef = .pointer (some ⟨g, 0, none⟩)) (hg : w.heap[g]? = some (.cells cs 35 (0, 0))) (hs : cs.size = 6) : (results Tryd.f25 tmps).run Tryd.prog w = .ok (.agg cs) w :=
  res_cell (fn := Tryd.f25) rfl hp hg Tryd.underlying35 rfl (by rw [hs]; kernel_rfl)
set_option maxRecDepth 100000 in
set_option maxHeartbeats 2000000 in
theorem read_zero : ReadSaid 0 := by
  intro S A c b i e ei ab w hei hab hr he hi hb hd
  subst hei
  have h8 : 8 ≤ ab := by omega
  clear hab
  obtain ⟨_, _, h, hc, hm, hp⟩ := byts_parts hr
  cases h
  have HP := Lib.hid hp
  clear hp hr
  by_cases c1 : e ≤ i
  · have HV := Lib.hid (show pread 0 b i e = .err 3 e by unfold pread; rw [if_pos c1])
    go_enter Tryd.func25, Tryd.ntmps25
    go_wp2
    refine bodyPost_ret (read_results rfl (new_block _ _) rfl) rfl ⟨_, rfl, by rw [HV.out]; exact ResV.err _ _ _ _, bl_alloc (bl_refl _) _⟩
  · have hlt : i < b.length := by omega
    obtain ⟨ad, rfl, d0⟩ := HP.out i hlt
    have qd0 := World.block_lt_of_cell? w _ d0
    have hx256 := UInt8.toNat_lt b[i]
    have hgd : b.getD i 0 = b[i] := by simp [List.getD_eq_getElem?_getD, List.getElem?_eq_getElem hlt]
    have HG := Lib.hid hgd
    clear hgd
    cases ht : tagOk b[i]
    · have HV := Lib.hid (show pread 0 b i e = .err 5 i by unfold pread; rw [if_neg c1, HG.out, ht]; rfl)
      go_enter Tryd.func25, Tryd.ntmps25
      go_wp2_with (go_at_call 40; go_must (refine (Tag_any b[i] _).mono ?_; rw [ht]; rintro e w1 ⟨rfl, rfl⟩))
      refine bodyPost_ret (read_results rfl (new_block _ _) rfl) rfl ⟨_, rfl, by rw [HV.out]; exact ResV.err _ _ _ _, bl_alloc (bl_refl _) _⟩
    · have HV := Lib.hid (show pread 0 b i e = .err 2 i by unfold pread; rw [if_neg c1, HG.out, ht]; rfl)
      go_enter Tryd.func25, Tryd.ntmps25
      go_wp2_with (go_at_call 40; go_must (refine (Tag_any b[i] _).mono ?_; rw [ht]; rintro e w1 ⟨rfl, rfl⟩))
      refine bodyPost_ret (read_results rfl (new_block _ _) rfl) rfl ⟨_, rfl, by rw [HV.out]; exact ResV.err _ _ _ _, bl_alloc (bl_refl _) _⟩
end Go.Proofs.YtfgeldeaahdddaaDoor
