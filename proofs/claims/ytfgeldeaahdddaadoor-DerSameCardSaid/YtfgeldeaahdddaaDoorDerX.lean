/- A node that came in: what its cells hold. -/
import Derived.Test.YtfgeldeaahdddaaDoorLaidV
import Derived.Test.YtfgeldeaahdddaaDoorDerP
set_option linter.unusedVariables false
namespace Go.Proofs.YtfgeldeaahdddaaDoor
open Go.ChangeShapes Go.WideShapes Go.ChangeAt Go.RowKit Go.Deep Lx

theorem list_of {α : Type} (P : Nat → α → Prop) : ∀ m, (∀ i, i < m → ∃ x, P i x) → ∃ l : List α, l.length = m ∧ ∀ i (h : i < l.length), P i l[i]
  | 0, _ => ⟨[], rfl, fun i h => by simp at h⟩
  | m + 1, h => by
    obtain ⟨l, hl, hp⟩ := list_of P m fun i hi => h i (by omega)
    obtain ⟨x, hx⟩ := h m (by omega)
    refine ⟨l ++ [x], by simp [hl], fun i hi => ?_⟩
    by_cases h1 : i < l.length
    · rw [List.getElem_append_left h1]; exact hp i h1
    · have : i = l.length := by rw [List.length_append] at hi; simp at hi; omega
      subst this
      rw [List.getElem_append_right (Nat.le_refl _)]
      simpa [hl] using hx
def NodeCs (w : World) (cs : List Value) (n : Tre) : Prop :=
  ∃ A1 c1 A2 c2, cs = [.int .u8 (n.tag.toNat : Int), .slice A1 n.bs.length c1, .slice A2 n.kids.length c2] ∧ n.bs.length ≤ c1 ∧ n.kids.length ≤ c2 ∧ Rep (fun _ => True) w (.slice A1 n.bs.length c1) (byts n.bs) ∧ Rep (fun _ => True) w (.slice A2 n.kids.length c2) (.sl 3 (Tre.cellsL n.kids))
theorem NodeCs.treV {w : World} {cs : List Value} {n : Tre} (h : NodeCs w cs n) : TreV (fun _ => True) w (.agg cs.toArray) n := by
  obtain ⟨A1, c1, A2, c2, rfl, h1, h2, h3, h4⟩ := h
  exact ⟨A1, c1, A2, c2, rfl, h1, h2, h3, h4⟩
theorem kids_mk {w : World} {ad : Addr} {c : Nat} {ks : List Tre} (hc : ks.length ≤ c) (hm : ks.length ≤ 9223372036854775807) (h : ∀ i (hi : i < ks.length), ∃ cs, w.cells? 0 (ad.add (i * 3)) 3 = some cs ∧ NodeCs w cs ks[i]) :
    Rep (fun _ => True) w (.slice (some ad) ks.length c) (.sl 3 (Tre.cellsL ks)) := by
  refine rep_slice (by rw [Tre.cellsL_length]) (by decide) hc hm trivial fun j hj => ?_
  have hj3 : j < ks.length * 3 := by rw [Tre.cellsL_length] at hj; exact hj
  have hi : j / 3 < ks.length := by omega
  obtain ⟨cs, h1, A1, c1, A2, c2, rfl, h2, h3, h4, h5⟩ := h (j / 3) hi
  have hr : j % 3 < 3 := Nat.mod_lt _ (by decide)
  have hje : j / 3 * 3 + j % 3 = j := by omega
  have hlt : j / 3 * 3 + j % 3 < (Tre.cellsL ks).length := by omega
  have hcl := Tre.cellsL_at ks (j / 3) (j % 3) hi hr hlt (by rw [Tre.cells_length]; exact hr)
  have he : (Tre.cellsL ks)[j] = (ks[j / 3]).cells[j % 3]'(by rw [Tre.cells_length]; exact hr) := by
    rw [← hcl]
    congr 1
    exact hje.symm
  rw [he]
  simp only [Tre.cells_eq]
  have hat := fun v hv => cells_at h1 (j % 3) hr (v := v) hv
  rw [add_add, hje] at hat
  clear he hcl
  generalize j % 3 = r at hr hat
  match r, hr with
  | 0, _ => exact ⟨_, hat _ rfl, .val _⟩
  | 1, _ => exact ⟨_, hat _ rfl, h4⟩
  | 2, _ => exact ⟨_, hat _ rfl, h5⟩
theorem fitL_of {l : List Tre} (h : ∀ i (hi : i < l.length), (l[i]).fit) : Tre.fitL l := by
  induction l with
  | nil => simp [Tre.fitL]
  | cons x l ih =>
    rw [Tre.fitL]
    exact ⟨h 0 (by simp), ih fun i hi => h (i + 1) (by simpa using hi)⟩
theorem weightsAll_mem {H : Type} {P : Program} {e : TypeId} {es : List (DataW H)} {i : Nat} (hi : i < es.length) {y : Nat} (hy : y ∈ (es[i]).weights P e) : y ∈ DataW.weightsAll P e es := by
  induction es generalizing i with
  | nil => simp at hi
  | cons d r ih =>
    rw [DataW.weightsAll, List.mem_append]
    cases i with
    | zero => exact .inl hy
    | succ i => exact .inr (ih (i := i) (by simpa using hi) hy)
theorem bytes33 : Tryd.prog.bytesOf 33 = 56 := by kernel_rfl
theorem open_node {H : Type} {enc : TypeId × Value → H} {w : World} : ∀ (fuel : Nat) (cs : List Value) (x : DataW H × List MemPlace), DataW.trod enc Tryd.prog w 0 (fun _ => true) true fuel 33 cs = some x →
    (∀ y ∈ x.1.weights Tryd.prog 33, y ≤ reachBytes) → ∃ n : Tre, n.fit ∧ NodeCs w cs n := by
  intro fuel
  induction fuel using Nat.strongRecOn with
  | _ fuel ih =>
    intro cs x h hwt
    obtain ⟨ys, m, hm, hx, hyl, hcl, hf⟩ := struct_parts (P := Tryd.prog) Tryd.underlying33 (by kernel_rfl) (by kernel_rfl) h
    obtain ⟨v0, y0, c0, q0, t0⟩ := hf 0 _ rfl
    obtain ⟨v1, y1, c1, q1, t1⟩ := hf 1 _ rfl
    obtain ⟨v2, y2, c2, q2, t2⟩ := hf 2 _ rfl
    have hcs : cs = [v0, v1, v2] := by
      match cs, hcl, c0, c1, c2 with
      | [a, b, c], _, c0, c1, c2 => simp at c0 c1 c2; rw [c0, c1, c2]
    have hys : ys = [y0, y1, y2] := by
      match ys, hyl, q0, q1, q2 with
      | [a, b, c], _, c0, c1, c2 => simp at c0 c1 c2; rw [c0, c1, c2]
    obtain ⟨n0, hv0, hy0, hw0⟩ := DataW.trod_int Tryd.underlying5 t0
    cases hv0
    obtain ⟨A1, xs, k1, hv1, hr1, _⟩ := open_byts Tryd.underlying22 Tryd.underlying5 cells5 t1
    have hw0' : 0 ≤ n0 ∧ n0 ≤ 255 := by simpa [Lit.wf, IntKind.min, IntKind.max, IntKind.signed, IntKind.bits] using hw0
    have hb0 : ((UInt8.ofNat n0.toNat).toNat : Int) = n0 := by rw [UInt8.toNat_ofNat']; omega
    subst hv1
    obtain ⟨_, _, he, hl1, _⟩ := byts_parts hr1
    cases he
    have hwx : ∀ y ∈ y2.1.weights Tryd.prog 31, y ≤ reachBytes := fun y hy => hwt y (by
      rw [hx, hys]
      show y ∈ DataW.weights Tryd.prog 33 (.agg [y0.1, y1.1, y2.1])
      simp only [DataW.weights, Tryd.underlying33]
      simp only [List.map_cons, List.map_nil, DataW.weightsEach, List.mem_append]
      exact .inr (.inr (.inl hy)))
    rcases slice_parts Tryd.underlying31 t2 with ⟨hv2, _⟩ | ⟨a, len, cap, fu, es, sp, hfu, hv2, hl, hmx, hx2, hes, hel⟩
    · refine ⟨⟨UInt8.ofNat n0.toNat, xs, []⟩, by rw [Tre.fit_eq]; exact ⟨by simp [Tre.kids], by simp [Tre.kids, Tre.fitL]⟩, A1, k1, none, 0, ?_, hl1, Nat.le_refl _, hr1, .nil _ _ _⟩
      rw [hcs, hv2]
      show [Value.int .u8 n0, _, _] = [Value.int .u8 ((UInt8.ofNat n0.toNat).toNat : Int), _, _]
      rw [hb0]
      rfl
    · have hC : Tryd.prog.cellsOf 33 = 3 := by kernel_rfl
      rw [hC] at hel
      rw [hx2] at hwx
      simp only [DataW.weights, Tryd.underlying31, bytes33] at hwx
      have hfit1 : es.length * 56 ≤ 140737488351232 := by
        have := hwx _ (List.mem_cons_self ..)
        unfold reachBytes at this
        omega
      have hkid : ∀ i, i < es.length → ∃ n : Tre, n.fit ∧ ∃ cs, w.cells? 0 (a.add (i * 3)) 3 = some cs ∧ NodeCs w cs n := fun i hi => by
        obtain ⟨cs', y', e1, e2, e3⟩ := hel i hi
        obtain ⟨n, f1, f2⟩ := ih fu (by omega) cs' y' e2 (fun y hy => hwx y (List.mem_cons_of_mem _ (List.mem_append_left _ (weightsAll_mem hi (by rw [← e3]; exact hy)))))
        exact ⟨n, f1, cs', e1, f2⟩
      obtain ⟨ks, hkl, hks⟩ := list_of _ es.length hkid
      have hkc : ks.length ≤ cap := by omega
      have hK := kids_mk (w := w) (ad := a) (c := cap) (ks := ks) hkc (by simp only [maxLen] at hmx; omega) (fun i hi => (hks i hi).2)
      refine ⟨⟨UInt8.ofNat n0.toNat, xs, ks⟩, by rw [Tre.fit_eq]; exact ⟨by simp only [Tre.kids]; omega, fitL_of fun i hi => (hks i hi).1⟩, A1, k1, some a, cap, ?_, hl1, hkc, hr1, hK⟩
      rw [hcs, hv2]
      show [Value.int .u8 n0, _, _] = [Value.int .u8 ((UInt8.ofNat n0.toNat).toNat : Int), _, _]
      rw [hb0, ← hes, ← hkl]
      rfl
end Go.Proofs.YtfgeldeaahdddaaDoor
