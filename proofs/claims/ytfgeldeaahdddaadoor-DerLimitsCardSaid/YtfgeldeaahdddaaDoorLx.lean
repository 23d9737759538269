/- Words for walks over read-only data of any shape: what a value's cells say ('Rep'), a slice of the call's own whose elements may lead on to data ('Own'), and how both move from world to world. No program in sight. -/
import Derived.WalkKit
import Derived.WalkSpells
import Derived.WalkLawsBesides
import Derived.Deep.QuietTactic
import Derived.BigQuiet
import Derived.Maps.AppendAt
import Derived.Lib.Hide
import Derived.Deep.AppendLies
import Derived.Laws.BytesArg
import Derived.Laws.Rows
namespace Go.Proofs.YtfgeldeaahdddaaDoor.Lx
open Go.RowKit

/-- Data as cells: a plain value, or a slice's elements laid out cell by cell ('sz' cells an element). -/
inductive Cl where
  | val (v : Value)
  | sl (sz : Nat) (es : List Cl)

/-- Value v is the data c in the world w; all the blocks that it leads to are in S. -/
inductive Rep (S : Nat → Prop) (w : World) : Value → Cl → Prop
  | val (v : Value) : Rep S w v (.val v)
  | nil (A : Option Addr) (c sz : Nat) : Rep S w (.slice A 0 c) (.sl sz [])
  | sl (ad : Addr) (n c sz : Nat) (es : List Cl) (vs : Nat → Value) (h0 : 0 < es.length) (hl : es.length = n * sz) (hc : n ≤ c) (hm : n ≤ 9223372036854775807) (hS : S ad.block)
      (hcell : ∀ j, j < es.length → w.cell? (ad.add j) = some (vs j)) (hr : ∀ j (h : j < es.length), Rep S w (vs j) es[j]) : Rep S w (.slice (some ad) n c) (.sl sz es)

theorem cell_move {w w' : World} {a : Addr} (h : w'.heap[a.block]? = w.heap[a.block]?) {v : Value} (hc : w.cell? a = some v) : w'.cell? a = some v := by
  rw [World.cell?_of_block h]; exact hc
theorem add_block (a : Addr) (j : Nat) : (a.add j).block = a.block := by unfold Addr.add; split <;> rfl

theorem Rep.move' {S S' : Nat → Prop} {w w' : World} {v : Value} {c : Cl} (h : Rep S w v c) (hS : ∀ k, S k → k < w.heap.size → S' k ∧ w'.heap[k]? = w.heap[k]?) : Rep S' w' v c := by
  induction h with
  | val v => exact .val v
  | nil A c sz => exact .nil A c sz
  | sl ad n c sz es vs h0 hl hc hm hs hcell hr ih =>
    have hlt : ad.block < w.heap.size := by
      have := World.block_lt_of_cell? w (ad.add 0) (hcell 0 h0)
      rwa [add_block] at this
    obtain ⟨h1, h2⟩ := hS _ hs hlt
    exact .sl ad n c sz es vs h0 hl hc hm h1 (fun j hj => cell_move (by rw [add_block]; exact h2) (hcell j hj)) ih
theorem Rep.move {S : Nat → Prop} {w w' : World} {v : Value} {c : Cl} (h : Rep S w v c) (hS : ∀ k, S k → k < w.heap.size → w'.heap[k]? = w.heap[k]?) : Rep S w' v c :=
  h.move' fun k h1 h2 => ⟨h1, hS k h1 h2⟩
theorem Rep.mono {S S' : Nat → Prop} {w : World} {v : Value} {c : Cl} (h : Rep S w v c) (hS : ∀ k, S k → k < w.heap.size → S' k) : Rep S' w v c :=
  h.move' fun k h1 h2 => ⟨hS k h1 h2, rfl⟩
theorem Rep.frame {S : Nat → Prop} {B : Nat} {w w' : World} {v : Value} {c : Cl} (h : Rep S w v c) (hb : Below B w w') (hS : ∀ k, S k → k < w.heap.size → k < B) : Rep S w' v c :=
  h.move fun k h1 h2 => hb.block k (hS k h1 h2)
theorem Rep.grown {S : Nat → Prop} {row : Option Nat} {w w' : World} {v : Value} {c : Cl} (h : Rep S w v c) (hg : w.grownBy w' row) (hS : ∀ k, S k → some k ≠ row) : Rep S w' v c :=
  h.move fun k h1 h2 => hg.block k h2 (hS k h1)
/-- Whatever comes: the blocks below the heap's present end. -/
theorem Rep.now {S : Nat → Prop} {w : World} {v : Value} {c : Cl} (h : Rep S w v c) : Rep (fun k => S k ∧ k < w.heap.size) w v c := h.mono fun _ h1 h2 => ⟨h1, h2⟩

/-- The parts of a slice. -/
theorem Rep.parts {S : Nat → Prop} {w : World} {v : Value} {sz : Nat} {es : List Cl} (h : Rep S w v (.sl sz es)) :
    ∃ A n c, v = .slice A n c ∧ es.length = n * sz ∧ n ≤ c ∧ n ≤ 9223372036854775807 ∧
      (0 < n → ∃ ad, A = some ad ∧ S ad.block ∧ ∃ vs : Nat → Value, ∀ j, j < es.length → w.cell? (ad.add j) = some (vs j) ∧ ∀ h : j < es.length, Rep S w (vs j) es[j]) := by
  cases h with
  | nil A c => exact ⟨A, 0, c, rfl, by simp, Nat.zero_le _, Nat.zero_le _, fun h => absurd h (by omega)⟩
  | sl ad n c _ _ vs h0 hl hc hm hs hcell hr => exact ⟨some ad, n, c, rfl, hl, hc, hm, fun _ => ⟨ad, rfl, hs, vs, fun j hj => ⟨hcell j hj, fun h => hr j h⟩⟩⟩

theorem bl_refl (w : World) : Below w.heap.size w w := Below.refl _ _
theorem bl_alloc {w W : World} (h : Below w.heap.size w W) (o : Obj) : Below w.heap.size w (W.alloc o) := h.alloc h.size o
theorem bl_drewN {B : Nat} {w W : World} (h : Below B w W) (n : Nat) : Below B w (W.drewN n) := ⟨h.os, h.tape, h.output, h.size, h.block⟩
theorem bl_drew {B : Nat} {w W : World} (h : Below B w W) : Below B w W.drew := ⟨h.os, h.tape, h.output, h.size, h.block⟩
theorem bl_set {w W : World} (h : Below w.heap.size w W) {p : Addr} (hp : w.heap.size ≤ p.block) (u : Value) : Below w.heap.size w (W.setCell p u) := h.setCell hp u
theorem bl_then {w W W' : World} (h : Below w.heap.size w W) (k : Below W.heap.size W W') : Below w.heap.size w W' := h.trans (k.mono h.size)
theorem bl_grown {w W W' : World} (h : Below w.heap.size w W) {row : Option Nat} (hg : W.grownBy W' row) (hr : ∀ k, row = some k → w.heap.size ≤ k) : Below w.heap.size w W' := h.grown hg h.size hr
theorem Rep.old {S : Nat → Prop} {w w' : World} {v : Value} {c : Cl} (h : Rep S w v c) (hb : Below w.heap.size w w') : Rep S w' v c := h.frame hb fun _ _ h => h

theorem new_block (w : World) (o : Obj) : (w.alloc o).heap[w.heap.size]? = some o := by
  show (w.heap.push o)[w.heap.size]? = _
  rw [Array.getElem?_push, if_pos rfl]
theorem alloc_old (w : World) (o : Obj) (g : Nat) (h : g < w.heap.size) : (w.alloc o).heap[g]? = w.heap[g]? := Below.heap_alloc w o g h
theorem blk_cell {w : World} {g : Nat} {cs : Array Value} {t : TypeId} {fr : Nat × Nat} (h : w.heap[g]? = some (.cells cs t fr)) (j : Nat) : w.cell? ⟨g, j, none⟩ = cs[j]? := cell_of_row w g j cs t fr h
theorem blk_lt {w : World} {g : Nat} {o : Obj} (h : w.heap[g]? = some o) : g < w.heap.size := (Array.getElem?_eq_some_iff.1 h).1
theorem blk_frozen {w : World} {g : Nat} {cs : Array Value} {t : TypeId} (h : w.heap[g]? = some (.cells cs t (0, 0))) (j : Nat) : w.frozen? ⟨g, j, none⟩ = false := by
  simp [World.frozen?, h]
theorem blk_set {w : World} {g : Nat} {cs : Array Value} {t : TypeId} {fr : Nat × Nat} (h : w.heap[g]? = some (.cells cs t fr)) (j : Nat) (u : Value) : (w.setCell ⟨g, j, none⟩ u).heap[g]? = some (.cells (cs.setIfInBounds j u) t fr) := by
  simp only [World.setCell, Array.getElem?_modify]
  rw [if_pos trivial, h]
  rfl
theorem blk_set3 {w : World} {g : Nat} {a0 a1 a2 : Value} {t : TypeId} {fr : Nat × Nat} (h : w.heap[g]? = some (.cells #[a0, a1, a2] t fr)) (b0 b1 b2 : Value) :
    (((w.setCell ⟨g, 0, none⟩ b0).setCell ⟨g, 1, none⟩ b1).setCell ⟨g, 2, none⟩ b2).heap[g]? = some (.cells #[b0, b1, b2] t fr) := blk_set (blk_set (blk_set h 0 b0) 1 b1) 2 b2
theorem blk_set6 {w : World} {g : Nat} {a0 a1 a2 a3 a4 a5 : Value} {t : TypeId} {fr : Nat × Nat} (h : w.heap[g]? = some (.cells #[a0, a1, a2, a3, a4, a5] t fr)) (b0 b1 b2 b3 b4 b5 : Value) :
    ((((((w.setCell ⟨g, 0, none⟩ b0).setCell ⟨g, 1, none⟩ b1).setCell ⟨g, 2, none⟩ b2).setCell ⟨g, 3, none⟩ b3).setCell ⟨g, 4, none⟩ b4).setCell ⟨g, 5, none⟩ b5).heap[g]? = some (.cells #[b0, b1, b2, b3, b4, b5] t fr) :=
  blk_set (blk_set (blk_set (blk_set (blk_set (blk_set h 0 b0) 1 b1) 2 b2) 3 b3) 4 b4) 5 b5
theorem blk_set_far {w : World} {g : Nat} {o : Obj} (h : w.heap[g]? = some o) {p : Addr} (hp : p.block ≠ g) (u : Value) : (w.setCell p u).heap[g]? = some o := by
  rw [Below.heap_setCell w p u g (fun e => hp e.symm)]; exact h
theorem gr_refl (w : World) (row : Option Nat) : w.grownBy w row := World.grownBy.refl w row
theorem gr_set {w W : World} {g : Nat} (h : w.grownBy W (some g)) (j : Nat) (u : Value) : w.grownBy (W.setCell ⟨g, j, none⟩ u) (some g) :=
  ⟨h.os, h.tape, h.output, by simpa [World.setCell] using h.size, fun k hk hne => by
    rw [Below.heap_setCell W _ u k (fun e => hne (by rw [e]))]
    exact h.block k hk hne⟩
theorem gr_fresh {w W : World} {row : Option Nat} (h : w.grownBy W row) {p : Addr} (hp : w.heap.size ≤ p.block) (u : Value) : w.grownBy (W.setCell p u) row :=
  ⟨h.os, h.tape, h.output, by simpa [World.setCell] using h.size, fun k hk hne => by
    rw [Below.heap_setCell W _ u k (by omega)]
    exact h.block k hk hne⟩
theorem gr_drew {w W : World} {row : Option Nat} (h : w.grownBy W row) : w.grownBy W.drew row := ⟨h.os, h.tape, h.output, h.size, h.block⟩
theorem gr_drewN {w W : World} {row : Option Nat} (h : w.grownBy W row) (n : Nat) : w.grownBy (W.drewN n) row := ⟨h.os, h.tape, h.output, h.size, h.block⟩
theorem gr_alloc {w W : World} {row : Option Nat} (h : w.grownBy W row) (o : Obj) : w.grownBy (W.alloc o) row := h.trans (World.grownBy_alloc W o row)
theorem gr_below {w W W' : World} {row : Option Nat} (h : w.grownBy W row) (hb : Below W.heap.size W W') : w.grownBy W' row := h.trans ⟨hb.os, hb.tape, hb.output, hb.size, fun k hk _ => hb.block k hk⟩
theorem bl_of_gr {w W : World} {row : Option Nat} (h : w.grownBy W row) (hr : ∀ k, row = some k → w.heap.size ≤ k) : Below w.heap.size w W := ⟨h.os, h.tape, h.output, h.size, fun k hk => h.block k hk fun e => by have := hr k e.symm; omega⟩
theorem alloc_keep {w : World} {g : Nat} {o : Obj} (h : w.heap[g]? = some o) (o' : Obj) : (w.alloc o').heap[g]? = some o := (alloc_old _ _ _ (blk_lt h)).trans h
/-- A result that lies in memory. -/
theorem res_cell {P : Program} {fn : Func} {tmps : Array Value} {w : World} {p : Tmp} {ty : TypeId} {g : Nat} {cs : Array Value} {t : TypeId} {fr : Nat × Nat} {d : TypeDesc} (h : fn.results = #[.cell p ty]) (hp : tmps.getD p undef = .pointer (some ⟨g, 0, none⟩)) (hg : w.heap[g]? = some (.cells cs t fr))
    (hu : P.underlying ty = some d) (hd : (match d with | .struct _ | .array _ _ => true | _ => false) = true) (hi : (P.info? ty).map (·.size) = some cs.size) : (results fn tmps).run P w = .ok (.agg cs) w := by
  have hp' : tmps[p]?.getD undef = .pointer (some ⟨g, 0, none⟩) := by simpa using hp
  have hl := run_loadVar_row w g t ty cs fr d hg hu hd hi
  unfold results
  rw [h]
  simp [hp', asAddr, hl]
theorem res_cell_tmp {P : Program} {fn : Func} {tmps : Array Value} {w : World} {p q : Tmp} {ty : TypeId} {g : Nat} {cs : Array Value} {t : TypeId} {fr : Nat × Nat} {d : TypeDesc} (h : fn.results = #[.cell p ty, .tmp q]) (hp : tmps.getD p undef = .pointer (some ⟨g, 0, none⟩)) (hg : w.heap[g]? = some (.cells cs t fr))
    (hu : P.underlying ty = some d) (hd : (match d with | .struct _ | .array _ _ => true | _ => false) = true) (hi : (P.info? ty).map (·.size) = some cs.size) : (results fn tmps).run P w = .ok (.tuple #[.agg cs, tmps.getD q undef]) w := by
  have hp' : tmps[p]?.getD undef = .pointer (some ⟨g, 0, none⟩) := by simpa using hp
  have hl := run_loadVar_row w g t ty cs fr d hg hu hd hi
  unfold results
  rw [h]
  simp [hp', asAddr, hl]
theorem ret_int {k : IntKind} {a b : Int} (h : a = b) : Ending.returned (.int k a) = .returned (.int k b) := by rw [h]
theorem ret_bool {a b : Bool} (h : a = b) : Ending.returned (.bool a) = .returned (.bool b) := by rw [h]
theorem int_eq {k : IntKind} {a b : Int} (h : a = b) : Value.int k a = .int k b := by rw [h]

/-! ### byts -/
def byteCell (b : UInt8) : Cl := .val (.int .u8 (b.toNat : Int))
def byts (xs : List UInt8) : Cl := .sl 1 (xs.map byteCell)
theorem byts_parts {S : Nat → Prop} {w : World} {v : Value} {xs : List UInt8} (h : Rep S w v (byts xs)) :
    ∃ A c, v = .slice A xs.length c ∧ xs.length ≤ c ∧ xs.length ≤ 9223372036854775807 ∧
      ∀ i (hi : i < xs.length), ∃ ad, A = some ad ∧ w.cell? (ad.add i) = some (.int .u8 ((xs[i]'hi).toNat : Int)) := by
  obtain ⟨A, n, c, rfl, hl, hc, hm, hp⟩ := Rep.parts h
  have hn : n = xs.length := by simpa using hl.symm
  subst hn
  refine ⟨A, c, rfl, hc, hm, fun i hi => ?_⟩
  obtain ⟨ad, rfl, _, vs, hv⟩ := hp (by omega)
  obtain ⟨h1, h2⟩ := hv i (by simpa using hi)
  have h3 := h2 (by simpa using hi)
  simp only [List.getElem_map, byteCell] at h3
  refine ⟨ad, rfl, ?_⟩
  rw [h1]
  generalize vs i = u at h3
  cases h3
  rfl
theorem bytes_mk {S : Nat → Prop} {w : World} {ad : Addr} {c : Nat} {xs : List UInt8} (hc : xs.length ≤ c) (hm : xs.length ≤ 9223372036854775807) (hS : 0 < xs.length → S ad.block)
    (h : ∀ i (hi : i < xs.length), w.cell? (ad.add i) = some (.int .u8 ((xs[i]'hi).toNat : Int))) : Rep S w (.slice (some ad) xs.length c) (byts xs) := by
  by_cases h0 : xs = []
  · subst h0; exact .nil _ _ _
  · have hp : 0 < xs.length := List.length_pos_iff.2 h0
    refine .sl ad xs.length c 1 (xs.map byteCell) (fun j => .int .u8 ((xs.getD j 0).toNat : Int)) (by simpa using hp) (by simp) hc hm (hS hp) (fun j hj => ?_) (fun j hj => ?_)
    · have hj' : j < xs.length := by simpa using hj
      rw [h j hj']
      simp [List.getD_eq_getElem?_getD, List.getElem?_eq_getElem hj']
    · have hj' : j < xs.length := by simpa using hj
      simp only [List.getElem_map, byteCell, List.getD_eq_getElem?_getD, List.getElem?_eq_getElem hj', Option.getD_some]
      exact .val _
theorem bytes_nil {S : Nat → Prop} {w : World} (A : Option Addr) (c : Nat) : Rep S w (.slice A 0 c) (byts []) := .nil _ _ _

theorem byts_string {P : Program} {S : Nat → Prop} {w : World} {v : Value} {xs : List UInt8} {src dst e : TypeId} (hs : P.underlying src = some (.slice e)) (he : P.underlying e = some (.int .u8)) (hd : P.underlying dst = some .string)
    (h : Rep S w v (byts xs)) : (convert src dst v).run P w = .ok (.string ⟨xs.toArray⟩) w := by
  obtain ⟨A, c, rfl, hc, hm, hp⟩ := byts_parts h
  have hx : strOfNums (xs.map fun b => ((b.toNat : Nat) : Int)) = ⟨xs.toArray⟩ := by
    unfold strOfNums
    congr 2
    rw [List.map_map]
    conv => rhs; rw [← List.map_id xs]
    apply List.map_congr_left
    intro b _
    simp
  rcases A with _ | ⟨b, off, spot⟩
  · have h0 : xs = [] := by
      rcases Nat.eq_zero_or_pos xs.length with h | h
      · exact List.eq_nil_of_length_eq_zero h
      · obtain ⟨ad, h1, _⟩ := hp 0 h
        cases h1
    subst h0
    exact run_convert_bytes_nil w src e hs he _ _ dst hd
  · rcases Nat.eq_zero_or_pos xs.length with h0 | h0
    · have h0 : xs = [] := List.eq_nil_of_length_eq_zero h0
      subst h0
      rw [run_convert_bytes_string w src dst e _ _ _ hs he hd]
      simp [Conv.bytesToString, loadCells]
      rfl
    · have hsp : spot = none := by
        obtain ⟨ad, h1, h2⟩ := hp 0 h0
        injection h1 with h1
        subst h1
        cases spot with
        | none => rfl
        | some q =>
          exfalso
          simp only [Addr.add, World.cell?] at h2
          split at h2 <;> simp at h2
      subst hsp
      rw [← hx]
      refine run_convert_bytes_arg w src e hs he b off xs.length c _ (by simp) (fun i hi => ?_) dst hd
      obtain ⟨ad, h1, h2⟩ := hp i hi
      injection h1 with h1
      subst h1
      have ha : (⟨b, off, none⟩ : Addr).add i = ⟨b, off + i, none⟩ := by unfold Addr.add; split <;> simp_all
      rw [ha] at h2
      rw [h2]
      simp [List.getD_eq_getElem?_getD, List.getElem?_eq_getElem hi]

theorem slice_mid {P : Program} {t e : TypeId} (ht : P.underlying t = some (.slice e)) (hinfo : (P.info? e).map (fun i => (i.zero, i.size, i.bytes)) = some (some (.int .u8 0), 1, 1)) {S : Nat → Prop} {w : World} {A : Option Addr} {c : Nat} {b : List UInt8}
    (hR : Rep S w (.slice A b.length c) (byts b)) (lo l : Nat) (h : lo + l ≤ b.length) :
    ∃ A' c', (∀ W : World, (Instr.slice t (.slice A b.length c) (some (.int .i64 (lo : Int))) (some (.int .i64 ((lo : Int) + (l : Int)))) none).run P W = .ok (.slice A' l c') W) ∧ Rep S w (.slice A' l c') (byts ((b.drop lo).take l)) ∧ l ≤ c' := by
  obtain ⟨i, hi, hzz⟩ := Option.map_eq_some_iff.1 hinfo
  simp only [Prod.mk.injEq] at hzz
  obtain ⟨hz0, hz1, hz2⟩ := hzz
  obtain ⟨A1, c1, he, hc, hm, hp⟩ := byts_parts hR
  cases he
  refine ⟨if c = lo then A else A.map (·.add lo), c - lo, fun W => ?_, ?_, by omega⟩
  · have hel : P.elem t = e := by simp [Program.elem, ht]
    have hu : P.underlying t = some (.slice (P.elem t)) := by rw [hel]; exact ht
    rw [run_slice_lh W t A b.length c hu .i64 .i64 (lo : Int) ((lo : Int) + (l : Int)) (by omega) (by omega) (by omega), hel]
    have h1 : ((lo : Int) + (l : Int)).toNat - lo = l := by omega
    simp [sizeOf, typeInfo, hi, hz1, sliced, Result.andThen, h1]
  · have hlen : ((b.drop lo).take l).length = l := by rw [List.length_take, List.length_drop]; omega
    by_cases h0 : l = 0
    · subst h0
      have : (b.drop lo).take 0 = [] := by simp
      rw [this]
      exact .nil _ _ _
    · rw [if_neg (by omega)]
      obtain ⟨ad, rfl, _⟩ := hp 0 (by omega)
      have hS : S ad.block := by
        obtain ⟨A2, n2, c2, he2, _, _, _, hp2⟩ := Rep.parts hR
        injection he2 with e1 e2 e3
        obtain ⟨ad2, h3, h4, _⟩ := hp2 (by omega)
        rw [← e1] at h3
        injection h3 with h3
        rw [h3]
        exact h4
      have h2 := bytes_mk (S := S) (w := w) (ad := ad.add lo) (c := c - lo) (xs := (b.drop lo).take l) (by omega) (by omega) (fun _ => by rw [add_block]; exact hS) (fun i hi => by
        have hi' : i < l := by omega
        obtain ⟨ad', h3, h4⟩ := hp (lo + i) (by omega)
        cases h3
        have ha : (ad.add lo).add i = ad.add (lo + i) := by
          unfold Addr.add
          by_cases h5 : lo = 0
          · subst h5; simp
          · by_cases h6 : i = 0
            · subst h6; simp [h5]
            · simp [h5, h6, Nat.add_assoc]
        rw [ha, h4]
        simp)
      rw [hlen] at h2
      exact h2

/-! ### a slice of the call's own -/
def Own (S : Nat → Prop) (w : World) (B : Nat) (T : TypeId) (v : Value) (sz : Nat) (es : List Cl) : Prop :=
  ∃ inner n, w.ownsRow B T sz v n inner ∧ es.length = inner.length ∧ ∀ j (h1 : j < inner.length) (h2 : j < es.length), Rep (fun k => S k ∧ some k ≠ v.ownBlock) w inner[j] es[j]

theorem Own.nil (S : Nat → Prop) (w : World) (B : Nat) (T : TypeId) (sz : Nat) : Own S w B T (.slice none 0 0) sz [] :=
  ⟨[], 0, World.ownsRow_nil w B T sz, rfl, fun j h1 => by simp at h1⟩
theorem Own.lt {S : Nat → Prop} {w : World} {B : Nat} {T : TypeId} {v : Value} {sz : Nat} {es : List Cl} (h : Own S w B T v sz es) : ∀ k, v.ownBlock = some k → B ≤ k ∧ k < w.heap.size := by
  obtain ⟨inner, n, ho, _⟩ := h
  exact ho.lt
theorem Own.move {S S' : Nat → Prop} {w w' : World} {B : Nat} {T : TypeId} {v : Value} {sz : Nat} {es : List Cl} (h : Own S w B T v sz es) (hv : ∀ k, v.ownBlock = some k → w'.heap[k]? = w.heap[k]?)
    (hS : ∀ k, S k → some k ≠ v.ownBlock → k < w.heap.size → S' k ∧ w'.heap[k]? = w.heap[k]?) : Own S' w' B T v sz es := by
  obtain ⟨inner, n, ho, hl, hr⟩ := h
  refine ⟨inner, n, ?_, hl, fun j h1 h2 => (hr j h1 h2).move' fun k hk hlt => ⟨⟨(hS k hk.1 hk.2 hlt).1, hk.2⟩, (hS k hk.1 hk.2 hlt).2⟩⟩
  obtain ⟨h1, h2⟩ := ho
  refine ⟨h1, ?_⟩
  rcases h2 with h2 | ⟨g, cap, cur, rfl, hg, hh, r⟩
  · exact .inl h2
  · exact .inr ⟨g, cap, cur, rfl, hg, (hv g (by simp [Value.ownBlock])).trans hh, r⟩
theorem Own.below {S : Nat → Prop} {w w' : World} {B : Nat} {T : TypeId} {v : Value} {sz : Nat} {es : List Cl} (h : Own S w B T v sz es) (hb : Below w.heap.size w w') : Own S w' B T v sz es :=
  h.move (fun k hk => hb.block k (h.lt k hk).2) (fun k hk _ hlt => ⟨hk, hb.block k hlt⟩)
theorem Own.grown {S : Nat → Prop} {w w' : World} {B : Nat} {T : TypeId} {v : Value} {sz : Nat} {es : List Cl} (h : Own S w B T v sz es) {row : Option Nat} (hg : w.grownBy w' row) (hv : v.ownBlock = none ∨ v.ownBlock ≠ row) (hS : ∀ k, S k → some k ≠ row) : Own S w' B T v sz es :=
  h.move (fun k hk => hg.block k (h.lt k hk).2 (by rcases hv with h | h; · rw [hk] at h; cases h
                                                   · rw [← hk]; exact h)) (fun k hk _ hlt => ⟨hk, hg.block k hlt (hS k hk)⟩)
theorem Own.mono {S S' : Nat → Prop} {w : World} {B : Nat} {T : TypeId} {v : Value} {sz : Nat} {es : List Cl} (h : Own S w B T v sz es) (hS : ∀ k, S k → some k ≠ v.ownBlock → k < w.heap.size → S' k) : Own S' w B T v sz es :=
  h.move (fun _ _ => rfl) (fun k h1 h2 h3 => ⟨hS k h1 h2 h3, rfl⟩)
theorem Own.len {S : Nat → Prop} {w : World} {B : Nat} {T : TypeId} {v : Value} {sz : Nat} {es : List Cl} (h : Own S w B T v sz es) : ∃ A n c, v = .slice A n c ∧ es.length = n * sz ∧ n ≤ c ∧ n ≤ 9223372036854775807 := by
  obtain ⟨inner, n, ho, hl, hr⟩ := h
  have h1 := ho.1
  rcases ho.2 with ⟨rfl, rfl⟩ | ⟨g, cap, cur, rfl, hg, hh, hc, hm, hs, ht⟩
  · exact ⟨none, 0, 0, rfl, by rw [hl, h1], by omega, by omega⟩
  · exact ⟨_, n, cap, rfl, by rw [hl, h1], hc, by simp only [maxLen] at hm; omega⟩
/-- What is owned can be read. -/
theorem Own.rep {S S' : Nat → Prop} {w : World} {B : Nat} {T : TypeId} {v : Value} {sz : Nat} {es : List Cl} (h : Own S w B T v sz es) (hz : 0 < sz) (h1 : ∀ k, S k → k < w.heap.size → S' k) (h2 : ∀ k, B ≤ k → k < w.heap.size → S' k) : Rep S' w v (.sl sz es) := by
  have hlt := h.lt
  obtain ⟨inner, n, ho, hl, hr⟩ := h
  have hlen := ho.1
  rcases ho.2 with ⟨rfl, rfl⟩ | ⟨g, cap, cur, rfl, hg, hh, hc, hm, hs, ht⟩
  · have : es = [] := List.eq_nil_of_length_eq_zero (by rw [hl, hlen]; simp)
    subst this; exact .nil _ _ _
  · by_cases h0 : es.length = 0
    · have he : es = [] := List.eq_nil_of_length_eq_zero h0
      have hn : n = 0 := by
        have h3 : n * sz = 0 := by omega
        rcases Nat.mul_eq_zero.1 h3 with h | h
        · exact h
        · omega
      subst hn; subst he; exact .nil _ _ _
    · refine .sl _ n cap sz es (fun j => inner.getD j (.bool false)) (by omega) (by rw [hl, hlen]) hc (by simp only [maxLen] at hm; omega) (h2 g hg (hlt g (by simp [Value.ownBlock])).2) (fun j hj => ?_) (fun j hj => ?_)
      · exact ho.cells (g := g) (by simp [Value.ownBlock]) j _ (by rw [List.getElem?_eq_getElem (by omega), List.getD_eq_getElem?_getD, List.getElem?_eq_getElem (by omega)]; rfl)
      · have hj' : j < inner.length := by omega
        have := (hr j hj' hj).mono (S' := S') fun k hk hlt => h1 k hk.1 hlt
        simpa [List.getD_eq_getElem?_getD, List.getElem?_eq_getElem hj'] using this

theorem own_lit_bytes' {W : World} {B g : Nat} {T : TypeId} {cs : Array Value} {n : Nat} (xs : List UInt8) (hg : g = W.heap.size) (hB : B ≤ W.heap.size) (hn : n = xs.length) (hm : xs.length ≤ 9223372036854775807)
    (hcs : cs = (xs.map fun b => Value.int .u8 (b.toNat : Int)).toArray) : Own (fun _ => False) (W.alloc (.cells cs T)) B T (.slice (some ⟨g, 0, none⟩) n n) 1 (xs.map byteCell) := by
  subst hg
  subst hcs
  subst hn
  have h := World.ownsRow_lit (base := B) (e := T) (size := 1) W (xs.map fun b => Value.int .u8 (b.toNat : Int)).toArray xs.length hB (by simpa [maxLen] using hm) (by simp)
  exact ⟨_, _, h, by simp, fun j h1 h2 => by
    simp only [List.getElem_map, byteCell]
    exact .val _⟩
theorem own_lit_bytes {W : World} {B : Nat} {T : TypeId} {cs : Array Value} {n : Nat} (xs : List UInt8) (hB : B ≤ W.heap.size) (hn : n = xs.length) (hm : xs.length ≤ 9223372036854775807)
    (hcs : cs = (xs.map fun b => Value.int .u8 (b.toNat : Int)).toArray) : Own (fun _ => False) (W.alloc (.cells cs T)) B T (.slice (some ⟨W.heap.size, 0, none⟩) n n) 1 (xs.map byteCell) := own_lit_bytes' xs rfl hB hn hm hcs
theorem Own.bytes_rep {w : World} {B : Nat} {T : TypeId} {v : Value} {xs : List UInt8} (h : Own (fun _ => False) w B T v 1 (xs.map byteCell)) : Rep (fun k => B ≤ k) w v (byts xs) :=
  h.rep Nat.one_pos (fun _ h => h.elim) (fun _ h _ => h)
theorem Own.bytes_slice {S : Nat → Prop} {w : World} {B : Nat} {T : TypeId} {v : Value} {xs : List UInt8} (h : Own S w B T v 1 (xs.map byteCell)) : ∃ A c, v = .slice A xs.length c ∧ xs.length ≤ c ∧ xs.length ≤ 9223372036854775807 := by
  obtain ⟨A, n, c, rfl, h1, h2, h3⟩ := h.len
  have : n = xs.length := by simpa using h1.symm
  subst this
  exact ⟨A, c, rfl, h2, h3⟩
theorem Own.lower {S : Nat → Prop} {w : World} {B B' : Nat} {T : TypeId} {v : Value} {sz : Nat} {es : List Cl} (h : Own S w B T v sz es) (hb : B' ≤ B) : Own S w B' T v sz es := by
  obtain ⟨inner, n, ⟨h1, h2⟩, h3⟩ := h
  refine ⟨inner, n, ⟨h1, ?_⟩, h3⟩
  rcases h2 with h2 | ⟨g, cap, cur, rfl, hg, r⟩
  · exact .inl h2
  · exact .inr ⟨g, cap, cur, rfl, by omega, r⟩

/-! ### append -/
theorem own_append_run {P : Program} {S : Nat → Prop} {W : World} {B : Nat} {T t ty : TypeId} {z : Value} {sz by_ : Nat} {v : Value} {es ys : List Cl} (ht : P.underlying t = some (.slice T))
    (hinfo : (P.info? T).map (fun i => (i.zero, i.size, i.bytes)) = some (some z, sz, by_)) (hz : z.cells.size = sz) (hs0 : 0 < sz) (hb0 : 0 < by_)
    (HO : Own S W B T v sz es) (hB : B ≤ W.heap.size) (A : Option Addr) (m c : Nat) (news : List Value) (hl : news.length = m * sz) (hcells : ∀ ad, A = some ad → ∀ j u, news[j]? = some u → W.cell? (ad.add j) = some u)
    (hA : A = none → m = 0) (h1 : ∀ u ∈ news, u.oneCell' = true) (hly : ys.length = news.length) (hys : ∀ j (h1 : j < news.length) (h2 : j < ys.length), Rep (fun k => S k ∧ some k ≠ v.ownBlock) W news[j] ys[j])
    (hlen : ∀ n, es.length = n * sz → (n + m) * by_ ≤ 140737488355328) :
    ∃ v1 w1, (Builtin.append_ #[t, t] ty #[v, .slice A m c]).run P W = .ok v1 w1 ∧ Own S w1 B T v1 sz (es ++ ys) ∧ W.grownBy w1 v.ownBlock ∧ (v1.ownBlock = v.ownBlock ∨ v1.ownBlock = some W.heap.size) := by
  obtain ⟨i0, hi, hzz⟩ := Option.map_eq_some_iff.1 hinfo
  simp only [Prod.mk.injEq] at hzz
  obtain ⟨hz0, hz1, hz2⟩ := hzz
  obtain ⟨inner, n, ho, hel, hr⟩ := HO
  have hn : (n + m) * by_ ≤ 140737488355328 := hlen n (by rw [hel, ho.1])
  have hnm : n + m ≤ 140737488355328 := Nat.le_trans (Nat.le_mul_of_pos_right _ hb0) hn
  rcases A with _ | ad
  · have hm0 := hA rfl
    subst hm0
    have hnn : news = [] := List.eq_nil_of_length_eq_zero (by rw [hl]; simp)
    subst hnn
    have hy0 : ys = [] := List.eq_nil_of_length_eq_zero (by rw [hly]; rfl)
    subst hy0
    refine ⟨v, W, ?_, ⟨inner, n, ho, by simpa using hel, fun j h1 h2 => by simpa using hr j h1 (by simpa using h2)⟩, World.grownBy.refl W _, .inl rfl⟩
    rcases ho.2 with ⟨rfl, hn⟩ | ⟨g, cap, cur, rfl, _, _, hnc, _⟩
    · simp [Builtin.append_, run_underlying ht, sizeOf, typeInfo, hi, Builtin.lenOf, Builtin.firstCells]
    · simp [Builtin.append_, run_underlying ht, sizeOf, typeInfo, hi, Builtin.lenOf, Builtin.firstCells, hnc, storeCells]
  · obtain ⟨v1, w1, hrun, h2, h3, _, h5⟩ := run_append_own_at (P := P) W B t ty T i0 z sz by_ ht hi hz0 hz1 hz2 hz hs0 v n inner ho ad m c news hl (hcells ad rfl) h1 (by simp only [maxLen]; omega) hn hB
    refine ⟨v1, w1, hrun, ⟨inner ++ news, n + m, h2, by rw [List.length_append, List.length_append, hel, hly], fun j h4 h6 => ?_⟩, h3, h5⟩
    have mv : ∀ {x : Value} {q : Cl}, Rep (fun k => S k ∧ some k ≠ v.ownBlock) W x q → Rep (fun k => S k ∧ some k ≠ v1.ownBlock) w1 x q := fun h => h.move' fun k hk hlt => by
      refine ⟨⟨hk.1, ?_⟩, h3.block k hlt hk.2⟩
      rcases h5 with h5 | h5
      · rw [h5]; exact hk.2
      · rw [h5]
        intro he
        injection he with he
        omega
    by_cases hj : j < inner.length
    · rw [List.getElem_append_left hj, List.getElem_append_left (by omega)]
      exact mv (hr j hj (by omega))
    · rw [List.getElem_append_right (by omega), List.getElem_append_right (by omega)]
      have h7 := mv (hys (j - inner.length) (by rw [List.length_append] at h4; omega) (by rw [List.length_append] at h6; omega))
      simpa [hel] using h7

section
variable {P : Program} {ops : Array Oper} {rest : List Oper} {o : Oper} {a : Act} {Q : Exit → Act → World → Prop}
theorem run_event {W w1 : World} {v : Value} (hgd : o.guard = none) (hrun : (execOp a.eval o).run P W = .ok (.value v) w1) (h : wpList P ops Q rest (a.put o.dst v) w1) : wpList P ops Q (o :: rest) a W := by
  refine wpList_plain hgd fun K hK => ?_
  unfold Oper.wp
  rw [hrun]
  exact hK _ _ h
/-- append(v, ys...), byts. -/
theorem wp_append_bytes {Sy : Nat → Prop} {W : World} {B : Nat} {T t : TypeId} (hgd : o.guard = none) (s x : Operand) (ho : o.op = .call { callee := .builtin .append, args := #[s, x], argTypes := #[t, t] })
    (ht : P.underlying t = some (.slice T)) (hinfo : (P.info? T).map (fun i => (i.zero, i.size, i.bytes)) = some (some (.int .u8 0), 1, 1))
    (v : Value) (xs ys : List UInt8) (u : Value) (hs : a.eval s = v) (hx : a.eval x = u) (HO : Own (fun _ => False) W B T v 1 (xs.map byteCell)) (HR : Rep Sy W u (byts ys)) (hB : B ≤ W.heap.size)
    (hlen : xs.length + ys.length ≤ 140737488355328)
    (h : ∀ v1 w1, Own (fun _ => False) w1 B T v1 1 ((xs ++ ys).map byteCell) → (∀ w0, Below B w0 W → Below B w0 w1) → W.grownBy w1 v.ownBlock → (v1.ownBlock = v.ownBlock ∨ v1.ownBlock = some W.heap.size) → wpList P ops Q rest (a.put o.dst v1) w1) :
    wpList P ops Q (o :: rest) a W := by
  obtain ⟨A, c, rfl, hc, hm, hp⟩ := byts_parts HR
  obtain ⟨v1, w1, hr, h1, h2, h3⟩ := own_append_run (P := P) (ty := o.type) ht hinfo rfl Nat.one_pos Nat.one_pos HO hB A ys.length c (ys.map fun b => .int .u8 (b.toNat : Int)) (by simp)
    (fun ad hA j u hu => by
      subst hA
      rw [List.getElem?_map, Option.map_eq_some_iff] at hu
      obtain ⟨b, hb, rfl⟩ := hu
      obtain ⟨hj, rfl⟩ := List.getElem?_eq_some_iff.1 hb
      obtain ⟨ad', h1, h2⟩ := hp j hj
      injection h1 with h1
      subst h1
      exact h2)
    (fun hA => by
      rcases Nat.eq_zero_or_pos ys.length with h | h
      · exact h
      · obtain ⟨ad, h1, _⟩ := hp 0 h
        rw [hA] at h1; cases h1)
    (by intro u hu; rw [List.mem_map] at hu; obtain ⟨b, _, rfl⟩ := hu; rfl) (ys := ys.map byteCell) (by simp) (fun j h1 h2 => by simp only [List.getElem_map, byteCell]; exact .val _)
    (fun n hn => by have : xs.length = n := by simpa using hn
                    omega)
  refine run_event hgd (v := v1) (w1 := w1) ?_ (h v1 w1 (by rw [List.map_append]; exact h1) (fun w0 hb => hb.grown h2 hB fun k hk => (HO.lt k hk).1) h2 h3)
  simp only [execOp, ho, resolve, invoke, builtin, Sem.run_bind, Sem.run_pure, Result.andThen_ok, List.map_toArray, List.map_cons, List.map_nil, hs, hx, hr]
/-- append(v, y), one element whose cells are 'news': behind the variadic's box. -/
theorem wp_append_one {S : Nat → Prop} {W : World} {B : Nat} {T t : TypeId} {z : Value} {sz by_ : Nat} (hgd : o.guard = none) (s x : Operand) (ho : o.op = .call { callee := .builtin .append, args := #[s, x], argTypes := #[t, t] })
    (ht : P.underlying t = some (.slice T)) (hinfo : (P.info? T).map (fun i => (i.zero, i.size, i.bytes)) = some (some z, sz, by_)) (hz : z.cells.size = sz) (hs0 : 0 < sz) (hb0 : 0 < by_)
    (v : Value) (es ys : List Cl) (news : List Value) (hs : a.eval s = v) (hx : a.eval x = .slice (some ⟨W.heap.size, 0, none⟩) 1 1) (HO : Own S W B T v sz es) (hB : B ≤ W.heap.size)
    (hnl : news.length = sz) (h1 : ∀ u ∈ news, u.oneCell' = true) (hly : ys.length = sz) (hys : ∀ j (h1 : j < news.length) (h2 : j < ys.length), Rep (fun k => S k ∧ some k ≠ v.ownBlock) W news[j] ys[j])
    (hlen : ∀ n, es.length = n * sz → (n + 1) * by_ ≤ 140737488355328)
    (h : ∀ v1 w1, Own S w1 B T v1 sz (es ++ ys) → (∀ w0, Below B w0 W → Below B w0 w1) → W.grownBy w1 v.ownBlock → (v1.ownBlock = v.ownBlock ∨ v1.ownBlock = some (W.heap.size + 1)) → wpList P ops Q rest (a.put o.dst v1) w1) :
    wpList P ops Q (o :: rest) a (W.alloc (.cells news.toArray T)) := by
  have hb : Below W.heap.size W (W.alloc (.cells news.toArray T)) := (Below.refl _ _).alloc (Nat.le_refl _) _
  obtain ⟨v1, w1, hr, h2, h3, h4⟩ := own_append_run (P := P) (W := W.alloc (.cells news.toArray T)) (ty := o.type) ht hinfo hz hs0 hb0 (HO.below hb) (by simp; omega) (some ⟨W.heap.size, 0, none⟩) 1 1 news (by omega)
    (fun ad hA j u hu => by
      injection hA with hA
      subst hA
      have h5 : (W.alloc (.cells news.toArray T)).heap[W.heap.size]? = some (.cells news.toArray T (0, 0)) := by
        show (W.heap.push _)[W.heap.size]? = _
        rw [Array.getElem?_push, if_pos rfl]
      have := World.news_of_block (cs := news.toArray) (t := T) (fr := (0, 0)) h5 j u (by simpa using hu)
      simpa using this)
    (fun hA => by cases hA) h1 (by omega) (fun j h5 h6 => (hys j h5 h6).frame hb (fun k _ hlt => hlt)) hlen
  refine run_event hgd (v := v1) (w1 := w1) ?_ (h v1 w1 h2 (fun w0 hb' => (hb'.alloc hB _).grown h3 (by simp; omega) fun k hk => (HO.lt k hk).1) ?_ ?_)
  · simp only [execOp, ho, resolve, invoke, builtin, Sem.run_bind, Sem.run_pure, Result.andThen_ok, List.map_toArray, List.map_cons, List.map_nil, hs, hx, hr]
  · exact World.grownBy.trans (World.grownBy_alloc W _ _) h3
  · rcases h4 with h4 | h4
    · exact .inl h4
    · exact .inr (by rw [h4]; simp)
/-- append(v, y), one element whose cells are 'news': behind the variadic's box. -/
theorem wp_append_one' {S : Nat → Prop} {W : World} {B : Nat} {T t : TypeId} {z : Value} {sz by_ : Nat} (hgd : o.guard = none) (s x : Operand) (ho : o.op = .call { callee := .builtin .append, args := #[s, x], argTypes := #[t, t] })
    (ht : P.underlying t = some (.slice T)) (hinfo : (P.info? T).map (fun i => (i.zero, i.size, i.bytes)) = some (some z, sz, by_)) (hz : z.cells.size = sz) (hs0 : 0 < sz) (hb0 : 0 < by_)
    (v : Value) (es ys : List Cl) (news : List Value) (hs : a.eval s = v) (g : Nat) (hg : g = W.heap.size) (hx : a.eval x = .slice (some ⟨g, 0, none⟩) 1 1) (HO : Own S W B T v sz es) (hB : B ≤ W.heap.size)
    (hnl : news.length = sz) (h1 : ∀ u ∈ news, u.oneCell' = true) (hly : ys.length = sz) (hys : ∀ j (h1 : j < news.length) (h2 : j < ys.length), Rep (fun k => S k ∧ some k ≠ v.ownBlock) W news[j] ys[j])
    (hlen : ∀ n, es.length = n * sz → (n + 1) * by_ ≤ 140737488355328)
    (h : ∀ v1 w1, Own S w1 B T v1 sz (es ++ ys) → (∀ w0, Below B w0 W → Below B w0 w1) → W.grownBy w1 v.ownBlock → (v1.ownBlock = v.ownBlock ∨ v1.ownBlock = some (W.heap.size + 1)) → wpList P ops Q rest (a.put o.dst v1) w1) :
    wpList P ops Q (o :: rest) a (W.alloc (.cells news.toArray T)) := by
  subst hg
  have hb : Below W.heap.size W (W.alloc (.cells news.toArray T)) := (Below.refl _ _).alloc (Nat.le_refl _) _
  obtain ⟨v1, w1, hr, h2, h3, h4⟩ := own_append_run (P := P) (W := W.alloc (.cells news.toArray T)) (ty := o.type) ht hinfo hz hs0 hb0 (HO.below hb) (by simp; omega) (some ⟨W.heap.size, 0, none⟩) 1 1 news (by omega)
    (fun ad hA j u hu => by
      injection hA with hA
      subst hA
      have h5 : (W.alloc (.cells news.toArray T)).heap[W.heap.size]? = some (.cells news.toArray T (0, 0)) := by
        show (W.heap.push _)[W.heap.size]? = _
        rw [Array.getElem?_push, if_pos rfl]
      have := World.news_of_block (cs := news.toArray) (t := T) (fr := (0, 0)) h5 j u (by simpa using hu)
      simpa using this)
    (fun hA => by cases hA) h1 (by omega) (fun j h5 h6 => (hys j h5 h6).frame hb (fun k _ hlt => hlt)) hlen
  refine run_event hgd (v := v1) (w1 := w1) ?_ (h v1 w1 h2 (fun w0 hb' => (hb'.alloc hB _).grown h3 (by simp; omega) fun k hk => (HO.lt k hk).1) ?_ ?_)
  · simp only [execOp, ho, resolve, invoke, builtin, Sem.run_bind, Sem.run_pure, Result.andThen_ok, List.map_toArray, List.map_cons, List.map_nil, hs, hx, hr]
  · exact World.grownBy.trans (World.grownBy_alloc W _ _) h3
  · rcases h4 with h4 | h4
    · exact .inl h4
    · exact .inr (by rw [h4]; simp)
end
end Go.Proofs.YtfgeldeaahdddaaDoor.Lx
