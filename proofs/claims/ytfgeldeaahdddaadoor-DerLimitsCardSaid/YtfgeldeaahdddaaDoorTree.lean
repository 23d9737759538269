/- Trees of layer 8 as data: nodes with a tag, byts and kids; what their cells say. No program in sight. -/
import Derived.Test.YtfgeldeaahdddaaDoorLx
namespace Go.Proofs.YtfgeldeaahdddaaDoor.Lx
open Go.RowKit

inductive Tre where
  | mk (tag : UInt8) (bs : List UInt8) (kids : List Tre)
namespace Tre
def tag : Tre → UInt8 | ⟨t, _, _⟩ => t
def bs : Tre → List UInt8 | ⟨_, b, _⟩ => b
def kids : Tre → List Tre | ⟨_, _, k⟩ => k
mutual
def cells : Tre → List Cl
  | ⟨t, b, k⟩ => [byteCell t, byts b, .sl 3 (cellsL k)]
def cellsL : List Tre → List Cl
  | [] => []
  | k :: r => cells k ++ cellsL r
end
mutual
def depth : Tre → Nat
  | ⟨_, _, k⟩ => 1 + depthL k
def depthL : List Tre → Nat
  | [] => 0
  | k :: r => max (depth k) (depthL r)
end
theorem cells_eq (n : Tre) : n.cells = [byteCell n.tag, byts n.bs, .sl 3 (cellsL n.kids)] := by cases n; rw [cells]; rfl
theorem cells_length (n : Tre) : n.cells.length = 3 := by rw [cells_eq]; rfl
theorem cellsL_append (a b : List Tre) : cellsL (a ++ b) = cellsL a ++ cellsL b := by
  induction a with
  | nil => simp [cellsL]
  | cons x a ih => simp [cellsL, ih]
theorem cellsL_length (l : List Tre) : (cellsL l).length = l.length * 3 := by
  induction l with
  | nil => simp [cellsL]
  | cons x l ih => rw [cellsL, List.length_append, cells_length, ih, List.length_cons]; omega
theorem cellsL_at (l : List Tre) (i j : Nat) (hi : i < l.length) (hj : j < 3) : ∀ (h : i * 3 + j < (cellsL l).length) (h' : j < (l[i]).cells.length), (cellsL l)[i * 3 + j] = (l[i]).cells[j] := by
  induction l generalizing i with
  | nil => simp at hi
  | cons x l ih =>
    intro h h'
    cases i with
    | zero =>
      have hx : j < x.cells.length := by rw [cells_length]; exact hj
      simp only [cellsL, Nat.zero_mul, Nat.zero_add, List.getElem_cons_zero]
      rw [List.getElem_append_left hx]
    | succ i =>
      simp only [cellsL, List.getElem_cons_succ]
      have hx := cells_length x
      rw [List.getElem_append_right (by omega)]
      have := ih i (by simpa using hi) (by rw [cellsL_length]; have : i < l.length := by simpa using hi
                                           omega) (by rw [cells_length]; exact hj)
      rw [← this]
      congr 1
      omega
theorem depth_eq (n : Tre) : n.depth = 1 + depthL n.kids := by cases n; rw [depth]; rfl
theorem depthL_append (a b : List Tre) : depthL (a ++ b) = max (depthL a) (depthL b) := by
  induction a with
  | nil => simp [depthL]
  | cons x a ih => simp only [List.cons_append, depthL, ih]; omega
theorem depth_le (l : List Tre) (x : Tre) (h : x ∈ l) : x.depth ≤ depthL l := by
  induction l with
  | nil => simp at h
  | cons y l ih =>
    simp only [depthL]
    rcases List.mem_cons.1 h with rfl | h
    · omega
    · have := ih h; omega
theorem depthL_take (l : List Tre) (k : Nat) : depthL (l.take k) ≤ depthL l := by
  have := depthL_append (l.take k) (l.drop k)
  rw [List.take_append_drop] at this
  omega
theorem take_snoc {α : Type} (l : List α) (k : Nat) (h : k < l.length) : l.take (k + 1) = l.take k ++ [l[k]] := by
  rw [List.take_succ_eq_append_getElem h]
theorem depth_kid (n : Tre) (k : Nat) (h : k < n.kids.length) : (n.kids[k]).depth < n.depth := by
  have := depth_le n.kids _ (List.getElem_mem h)
  rw [depth_eq n]; omega
end Tre

theorem kids_slice {S : Nat → Prop} {w : World} {v : Value} {ks : List Tre} (h : Rep S w v (.sl 3 (Tre.cellsL ks))) : ∃ A c, v = .slice A ks.length c ∧ ks.length ≤ c ∧ ks.length ≤ 9223372036854775807 := by
  obtain ⟨A, n, c, rfl, hl, hc, hm, _⟩ := Rep.parts h
  have hn : n = ks.length := by rw [Tre.cellsL_length] at hl; omega
  subst hn
  exact ⟨A, c, rfl, hc, hm⟩
/-- A struct value of the type node. -/
def TreV (S : Nat → Prop) (w : World) (v : Value) (n : Tre) : Prop :=
  ∃ A1 c1 A2 c2, v = .agg #[.int .u8 (n.tag.toNat : Int), .slice A1 n.bs.length c1, .slice A2 n.kids.length c2] ∧ n.bs.length ≤ c1 ∧ n.kids.length ≤ c2 ∧ Rep S w (.slice A1 n.bs.length c1) (byts n.bs) ∧ Rep S w (.slice A2 n.kids.length c2) (.sl 3 (Tre.cellsL n.kids))
theorem TreV.move' {S S' : Nat → Prop} {w w' : World} {v : Value} {n : Tre} (h : TreV S w v n) (hS : ∀ k, S k → k < w.heap.size → S' k ∧ w'.heap[k]? = w.heap[k]?) : TreV S' w' v n := by
  obtain ⟨A1, c1, A2, c2, rfl, l1, l2, h1, h2⟩ := h
  exact ⟨A1, c1, A2, c2, rfl, l1, l2, h1.move' hS, h2.move' hS⟩
theorem TreV.mono {S S' : Nat → Prop} {w : World} {v : Value} {n : Tre} (h : TreV S w v n) (hS : ∀ k, S k → k < w.heap.size → S' k) : TreV S' w v n := h.move' fun k h1 h2 => ⟨hS k h1 h2, rfl⟩
theorem TreV.frame {S : Nat → Prop} {B : Nat} {w w' : World} {v : Value} {n : Tre} (h : TreV S w v n) (hb : Below B w w') (hS : ∀ k, S k → k < w.heap.size → k < B) : TreV S w' v n :=
  h.move' fun k h1 h2 => ⟨h1, hb.block k (hS k h1 h2)⟩
theorem TreV.old {S : Nat → Prop} {w w' : World} {v : Value} {n : Tre} (h : TreV S w v n) (hb : Below w.heap.size w w') : TreV S w' v n := h.frame hb fun _ _ h => h
/-- The kids in memory. -/
theorem kids_parts {S : Nat → Prop} {w : World} {v : Value} {ks : List Tre} (h : Rep S w v (.sl 3 (Tre.cellsL ks))) :
    ∃ A c, v = .slice A ks.length c ∧ ks.length ≤ c ∧ ks.length ≤ 9223372036854775807 ∧
      ∀ i (hi : i < ks.length), ∃ ad A1 c1 A2 c2, A = some ad ∧ w.cell? (ad.add (i * 3)) = some (.int .u8 ((ks[i]).tag.toNat : Int)) ∧ w.cell? ⟨(ad.add (i * 3)).block, (ad.add (i * 3)).off + 1, none⟩ = some (.slice A1 (ks[i]).bs.length c1)
        ∧ w.cell? ⟨(ad.add (i * 3)).block, (ad.add (i * 3)).off + 2, none⟩ = some (.slice A2 (ks[i]).kids.length c2) ∧ (ks[i]).bs.length ≤ c1 ∧ (ks[i]).kids.length ≤ c2 ∧ Rep S w (.slice A1 (ks[i]).bs.length c1) (byts (ks[i]).bs) ∧ Rep S w (.slice A2 (ks[i]).kids.length c2) (.sl 3 (Tre.cellsL (ks[i]).kids)) := by
  obtain ⟨A, n, c, rfl, hl, hc, hm, hp⟩ := Rep.parts h
  have hn : n = ks.length := by rw [Tre.cellsL_length] at hl; omega
  subst hn
  refine ⟨A, c, rfl, hc, hm, fun i hi => ?_⟩
  obtain ⟨ad, rfl, _, vs, hv⟩ := hp (by omega)
  have hlt : ∀ j, j < 3 → i * 3 + j < (Tre.cellsL ks).length := fun j hj => by rw [Tre.cellsL_length]; omega
  have hq : ∀ j (hj : j < 3), ∃ u, w.cell? (ad.add (i * 3 + j)) = some u ∧ Rep S w u ((ks[i]).cells[j]'(by rw [Tre.cells_length]; exact hj)) := fun j hj => by
    obtain ⟨h1, h2⟩ := hv _ (hlt j hj)
    have h3 := h2 (hlt j hj)
    rw [Tre.cellsL_at ks i j hi hj (hlt j hj) (by rw [Tre.cells_length]; exact hj)] at h3
    exact ⟨_, h1, h3⟩
  have hfield : ∀ j, 0 < j → ad.add (i * 3 + j) = ⟨(ad.add (i * 3)).block, (ad.add (i * 3)).off + j, none⟩ := fun j hj => by
    unfold Addr.add
    by_cases h0 : i * 3 = 0
    · simp [h0, Nat.ne_of_gt hj]
    · simp [h0, Nat.ne_of_gt hj, Nat.add_assoc]
  obtain ⟨u0, c0, r0⟩ := hq 0 (by omega)
  obtain ⟨u1, c1, r1⟩ := hq 1 (by omega)
  obtain ⟨u2, c2, r2⟩ := hq 2 (by omega)
  simp only [Tre.cells_eq, List.getElem_cons_zero, List.getElem_cons_succ] at r0 r1 r2
  rw [hfield 1 (by omega)] at c1
  rw [hfield 2 (by omega)] at c2
  obtain ⟨A1, b1, rfl, l1, _⟩ := byts_parts r1
  obtain ⟨A2, b2, rfl, l2, _⟩ := kids_slice r2
  refine ⟨ad, A1, b1, A2, b2, rfl, ?_, c1, c2, l1, l2, r1, r2⟩
  rw [show i * 3 = i * 3 + 0 from rfl, c0]
  unfold byteCell at r0
  cases r0
  rfl
end Go.Proofs.YtfgeldeaahdddaaDoor.Lx
