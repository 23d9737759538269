/- A row of bytes of the call's own whose bytes are changed in place. -/
import Derived.Test.YtgmnghnnlnohbaaWireF
set_option linter.unusedVariables false
set_option linter.unusedSimpArgs false
namespace Go.Proofs.Ytgmnghnnlnohbaa
open Go.RowKit Lx

/-- Block g holds bytes in its first n cells; which ones, is not said. -/
def ByR (w : World) (g n : Nat) : Prop := ∃ cs t, w.heap[g]? = some (.cells cs t (0, 0)) ∧ ∀ j < n, ∃ x : UInt8, cs[j]? = some (.int .u8 (x.toNat : Int))
theorem ByR.at {w : World} {g n : Nat} (h : ByR w g n) (j : Nat) (hj : j < n) : ∃ x : UInt8, w.cell? ⟨g, j, none⟩ = some (.int .u8 (x.toNat : Int)) ∧ w.frozen? ⟨g, j, none⟩ = false := by
  obtain ⟨cs, t, h1, h2⟩ := h
  obtain ⟨x, h3⟩ := h2 j hj
  exact ⟨x, (blk_cell h1 j).trans h3, blk_frozen h1 j⟩
theorem ByR.set {w : World} {g n : Nat} (h : ByR w g n) (j : Nat) (x : UInt8) : ByR (w.setCell ⟨g, j, none⟩ (.int .u8 (x.toNat : Int))) g n := by
  obtain ⟨cs, t, h1, h2⟩ := h
  refine ⟨_, t, blk_set h1 j _, fun i hi => ?_⟩
  obtain ⟨y, h3⟩ := h2 i hi
  have hlt : i < cs.size := (Array.getElem?_eq_some_iff.1 h3).1
  rw [Array.getElem?_setIfInBounds]
  by_cases hij : j = i
  · subst hij; rw [if_pos rfl, if_pos hlt]; exact ⟨x, rfl⟩
  · rw [if_neg hij]; exact ⟨y, h3⟩
theorem own_byr {w : World} {B : Nat} {T : TypeId} {v : Value} {xs : List UInt8} (h : Own (fun _ => False) w B T v 1 (xs.map byteCell)) :
    (xs = [] ∧ v = .slice none 0 0) ∨ ∃ g c, v = .slice (some ⟨g, 0, none⟩) xs.length c ∧ B ≤ g ∧ g < w.heap.size ∧ ByR w g xs.length := by
  have hr := h.bytes_rep
  obtain ⟨inner, n, ho, hl, _⟩ := h
  have h1 := ho.1
  have hn : n = xs.length := by simp at hl; omega
  subst hn
  rcases ho.2 with ⟨h2, h3⟩ | ⟨g, cap, cur, h2, hg, hh, hc, hm, hs, ht⟩
  · exact .inl ⟨List.eq_nil_of_length_eq_zero h3, h2⟩
  · refine .inr ⟨g, cap, h2, hg, blk_lt hh, cur, T, hh, fun j hj => ?_⟩
    subst h2
    obtain ⟨A, c, he, _, _, hp⟩ := byts_parts hr
    cases he
    obtain ⟨ad, h4, h5⟩ := hp j hj
    cases h4
    have h6 : (⟨g, 0, none⟩ : Addr).add j = ⟨g, j, none⟩ := by unfold Addr.add; split <;> simp_all
    rw [h6, blk_cell hh j] at h5
    exact ⟨_, h5⟩
/-- The n bytes at A lie in the block 'row', if there are any. -/
def RowB (w : World) (row : Option Nat) (A : Option Addr) (n : Nat) : Prop := 0 < n → ∃ g, row = some g ∧ A = some ⟨g, 0, none⟩ ∧ ByR w g n
theorem own_rowb {w : World} {B : Nat} {T : TypeId} {A : Option Addr} {n c : Nat} {xs : List UInt8} (hn : n = xs.length) (h : Own (fun _ => False) w B T (.slice A n c) 1 (xs.map byteCell)) :
    ∃ row : Option Nat, (∀ k, row = some k → B ≤ k ∧ k < w.heap.size) ∧ RowB w row A n := by
  subst hn
  rcases own_byr h with ⟨h1, h2⟩ | ⟨g, c', h1, h2, h3, h4⟩
  · exact ⟨none, (fun k hk => by cases hk), (fun h => by rw [h1] at h; simp at h)⟩
  · cases h1
    exact ⟨some g, (fun k hk => by cases hk; exact ⟨h2, h3⟩), (fun _ => ⟨g, rfl, rfl, h4⟩)⟩
theorem RowB.kept {w w' : World} {row : Option Nat} {A : Option Addr} {n : Nat} (h : RowB w row A n) (hk : ∀ k, row = some k → k < w.heap.size → w'.heap[k]? = w.heap[k]?) : RowB w' row A n := fun hn => by
  obtain ⟨g, h1, h2, cs, t, h3, h4⟩ := h hn
  exact ⟨g, h1, h2, cs, t, (hk g h1 (blk_lt h3)).trans h3, h4⟩
/-- A byte's successor, as it is stored. -/
theorem byte_succ (x : UInt8) : ∃ y : UInt8, IntKind.u8.wrap ((x.toNat : Int) + 1) = (y.toNat : Int) := by
  refine ⟨x + 1, ?_⟩
  rw [UInt8.toNat_add]
  have := UInt8.toNat_lt x
  simp [IntKind.wrap, IntKind.bits, IntKind.signed]
end Go.Proofs.Ytgmnghnnlnohbaa
