/- From how an argument reads to what its cells hold ('Rep'); the law's last step, where nothing old has turned. No program in sight. -/
import Derived.Test.YtfgeldeaahdddaaDoorLx
import Derived.ProofKit
import Derived.OpenShut
import Derived.Carry
import Derived.Deep.Slices
import Derived.Deep.Fields
import Derived.ChangeSame
set_option linter.unusedVariables false
namespace Go.Proofs.YtfgeldeaahdddaaDoor.Lx
open Go.ChangeShapes Go.WideShapes Go.ChangeAt Go.RowKit Go.Deep
variable {H : Type} {enc : TypeId × Value → H} {P : Program} {w : World}

/-- A slice that came in: its elements, one by one. -/
theorem slice_parts {t e : TypeId} {fuel : Nat} {v : Value} {x : DataW H × List MemPlace} (ht : P.underlying t = some (.slice e)) (h : DataW.trod enc P w 0 (fun _ => true) true fuel t [v] = some x) :
    (v = .slice none 0 0 ∧ x.1 = .nil) ∨
    ∃ (a : Addr) (len cap n : Nat) (es sp : List (DataW H)), fuel = n + 1 ∧ v = .slice (some a) len cap ∧ len ≤ cap ∧ cap ≤ maxLen ∧ x.1 = .slice es sp ∧ es.length = len ∧
      ∀ i (hi : i < es.length), ∃ cs' y, w.cells? 0 (a.add (i * P.cellsOf e)) (P.cellsOf e) = some cs' ∧ DataW.trod enc P w 0 (fun _ => true) true n e cs' = some y ∧ y.1 = es[i] := by
  rcases DataW.trod_slice ht h with ⟨h1, h2⟩ | ⟨a, len, cap, elems, rest, n, hf, hv, rfl, hb, hl, hm, hlen, hel, _, _⟩
  · cases h1; subst h2; exact .inl ⟨rfl, rfl⟩
  · cases hv
    refine .inr ⟨a, len, cap, n, elems.map (·.1), rest.map (·.1), hf, rfl, hl, hm, rfl, by simpa using hlen, fun i hi => ?_⟩
    have hi' : i < elems.length := by simpa using hi
    have h1 := hel i (by omega)
    rw [List.getElem?_eq_getElem hi'] at h1
    obtain ⟨cs', h2, h3⟩ := Option.bind_eq_some_iff.1 h1
    exact ⟨cs', elems[i], h2, h3, by simp⟩
/-- A struct of one-cell fields that came in. -/
theorem struct_parts {t : TypeId} {fs : Array Field} {fuel : Nat} {cs : List Value} {x : DataW H × List MemPlace} (ht : P.underlying t = some (.struct fs)) (hone : oneCellFields P fs = true) (hC : P.cellsOf t = fs.size)
    (h : DataW.trod enc P w 0 (fun _ => true) true fuel t cs = some x) :
    ∃ (ys : List (DataW H × List MemPlace)) (n : Nat), fuel = n + 1 ∧ x.1 = .agg (ys.map (·.1)) ∧ ys.length = fs.size ∧ cs.length = fs.size ∧
      ∀ (j : Nat) (f : Field), fs[j]? = some f → ∃ (v : Value) (y : DataW H × List MemPlace), cs[j]? = some v ∧ ys[j]? = some y ∧ DataW.trod enc P w 0 (fun _ => true) true n f.type [v] = some y := by
  obtain ⟨ys, n, hn, rfl, hlen, hyl, hf⟩ := DataW.trod_struct ht h
  rw [hC] at hlen
  refine ⟨ys, n, hn, rfl, hyl, hlen, fun j f hj => ?_⟩
  obtain ⟨ho, hk⟩ := hone_of hone j f hj
  have hjl : j < fs.size := (Array.getElem?_eq_some_iff.1 hj).1
  have h1 := hf j f hj
  rw [ho, hk] at h1
  have hone' : (cs.drop j).take 1 = [cs[j]'(by omega)] := by
    rw [List.drop_eq_getElem_cons (by omega)]
    rfl
  rw [hone'] at h1
  have hys : ys[j]? = some (ys[j]'(by omega)) := List.getElem?_eq_getElem (by omega)
  exact ⟨_, _, List.getElem?_eq_getElem (by omega), hys, h1.trans hys⟩
theorem cells_at {base : Nat} {a : Addr} {n : Nat} {cs : List Value} (h : w.cells? base a n = some cs) (j : Nat) (hj : j < n) {v : Value} (hv : cs[j]? = some v) : w.cell? (a.add j) = some v := by
  obtain ⟨_, _, hat⟩ := World.cells?_some h
  rw [hat j hj, hv]
/-- A slice, cell by cell. -/
theorem rep_slice {S : Nat → Prop} {ad : Addr} {n c sz : Nat} {es : List Cl} (hl : es.length = n * sz) (hz : 0 < sz) (hc : n ≤ c) (hm : n ≤ 9223372036854775807) (hS : S ad.block)
    (h : ∀ j (h : j < es.length), ∃ v, w.cell? (ad.add j) = some v ∧ Rep S w v es[j]) : Rep S w (.slice (some ad) n c) (.sl sz es) := by
  by_cases h0 : es = []
  · subst h0
    have hn : n = 0 := by
      have : n * sz = 0 := by simpa using hl.symm
      rcases Nat.mul_eq_zero.1 this with h | h
      · exact h
      · omega
    subst hn
    exact .nil _ _ _
  · refine .sl ad n c sz es (fun j => (w.cell? (ad.add j)).getD (.bool false)) (List.length_pos_iff.2 h0) hl hc hm hS (fun j hj => ?_) (fun j hj => ?_)
    · obtain ⟨v, h1, _⟩ := h j hj
      rw [h1]; rfl
    · obtain ⟨v, h1, h2⟩ := h j hj
      rw [h1]; exact h2
/-- A slice of bytes that came in. -/
theorem open_byts {t e : TypeId} {fuel : Nat} {v : Value} {x : DataW H × List MemPlace} (ht : P.underlying t = some (.slice e)) (he : P.underlying e = some (.int .u8)) (hc : P.cellsOf e = 1)
    (h : DataW.trod enc P w 0 (fun _ => true) true fuel t [v] = some x) :
    ∃ (A : Option Addr) (xs : List UInt8) (c : Nat), v = .slice A xs.length c ∧ Rep (fun _ => True) w v (byts xs) ∧ ((x.1 = .nil ∧ xs = []) ∨ ∃ es sp, x.1 = .slice es sp ∧ es.length = xs.length) := by
  rcases open_ints ht he hc h with ⟨h1, h2⟩ | ⟨a, len, cap, zs, h1, hb, hl, hm, hz, rfl, hcell, hwf⟩
  · cases h1
    subst h2
    exact ⟨none, [], 0, rfl, bytes_nil _ _, .inl ⟨rfl, rfl⟩⟩
  · cases h1
    simp only [if_true] at hz
    have hlen : ((zs.take len).map fun n => UInt8.ofNat n.toNat).length = len := by simp; omega
    refine ⟨some a, (zs.take len).map fun n => UInt8.ofNat n.toNat, cap, by rw [hlen], ?_, .inr ⟨_, _, rfl, by simp [lits]⟩⟩
    have hmx : cap ≤ 9223372036854775807 := by simpa [maxLen] using hm
    have hb := bytes_mk (S := fun _ => True) (w := w) (ad := a) (c := cap) (xs := (zs.take len).map fun n => UInt8.ofNat n.toNat) (by omega) (by omega) (fun _ => trivial) (fun i hi => by
      rw [hlen] at hi
      rw [hcell i (by omega)]
      have hmem : zs.getD i 0 ∈ zs := by
        rw [List.getD_eq_getElem?_getD, List.getElem?_eq_getElem (by omega)]
        exact List.getElem_mem _
      have h3 := hwf _ hmem
      have h4 : 0 ≤ zs.getD i 0 ∧ zs.getD i 0 ≤ 255 := by simpa [Lit.wf, IntKind.min, IntKind.max, IntKind.signed, IntKind.bits] using h3
      have h5 : ((zs.take len).map fun n => UInt8.ofNat n.toNat)[i]'(by rw [hlen]; exact hi) = UInt8.ofNat (zs.getD i 0).toNat := by
        rw [List.getElem_map, List.getElem_take, List.getD_eq_getElem?_getD, List.getElem?_eq_getElem (by omega)]
        rfl
      rw [h5, UInt8.toNat_ofNat']
      congr 2
      omega)
    rw [hlen] at hb
    exact hb
theorem post_of_below {f : Func} {s : ChangeSpec} {apart fresh handsOn again : Bool} {W W' : World} {args : Array Value} {v : Value} {ds gs : List (DataW H)} {before pa pv : List MemPlace}
    (hW : DataW.Whole enc P f.params.toList s.vars apart W args.toList ds gs before)
    (hres : ∀ (b : Nat) (sp : Nat → Bool) (hd : Bool), DataW.TrodAll enc P W' b sp hd f.resultTypes.toList (v.resultList f.resultTypes.size) (s.fn H (ds ++ gs)).results [])
    (hargs : ∀ sp : Nat → Bool, (∀ p ∈ before, sp p.block = true) → DataW.TrodAll enc P W' 0 sp true f.params.toList args.toList (s.fn H (ds ++ gs)).args pa)
    (hvars : ∀ sp : Nat → Bool, (∀ p ∈ before, sp p.block = true) → DataW.TrodVars enc P W' sp s.vars (s.fn H (ds ++ gs)).vars pv)
    (hps : before = pa ++ pv) (hb : Below W.heap.size W W')
    (hok : ∀ (j : Nat) (t : TypeId) (r : Value), f.resultTypes[j]? = some t → (v.resultList f.resultTypes.size)[j]? = some r → Value.okWide P W' .any 0 t r) :
    s.post enc P f apart fresh handsOn again W args v W' := by
  have hlt : ∀ p ∈ before, p.block < W.heap.size := fun p hp => hW.lt p hp
  have hold : ∀ p ∈ before, (fun b => decide (b < W.heap.size)) p.block = true := fun p hp => by simpa using hlt p hp
  refine ⟨ds, gs, before, [], pa, pv, hW, hres _ _ _, hargs _ hold, hvars _ hold, World.keptBut_mono (fun p hp => ⟨hp, ?_⟩) (hb.frame (· ∈ before)), fun _ => ?_⟩
  · rw [hps, List.mem_append] at hp
    exact Or.inr hp
  · obtain ⟨_, _, _, _, _, hz, hn⟩ := hW
    refine ⟨hok, _, _, ([] ++ pa) ++ pv, ⟨[] ++ pa, pv, trodAll_append (hargs _ (fun _ _ => rfl)) (hres _ _ _), hvars _ (fun _ _ => rfl), rfl, ?_, ?_⟩, ?_⟩
    · intro b off hp
      have hin : MemPlace.cell b off ∈ before := by rw [hps]; simpa using hp
      rw [hb.frozen (hlt _ hin)]
      exact hz b off hin
    · intro ha
      have := hn ha
      rw [hps] at this
      simpa using this
    · intro p hp _
      rw [hps]
      simpa using hp
/-- All arguments read behind the call as they did. -/
theorem trodAll_stays (hl : laidOutB P = true) {W W' : World} (hb : Below W.heap.size W W') {sp : Nat → Bool} :
    ∀ {ts : List TypeId} {vs : List Value} {ds : List (DataW H)} {ps : List MemPlace}, (∀ t ∈ ts, P.readableRec t = true ∧ t < P.types.size) → DataW.TrodAll enc P W 0 (fun _ => true) true ts vs ds ps → (∀ p ∈ ps, p.block < W.heap.size) → (∀ p ∈ ps, sp p.block = true) →
      DataW.TrodAll enc P W' 0 sp true ts vs ds ps
  | [], vs, ds, ps, _, h, _, _ => by
    obtain ⟨rfl, rfl, rfl⟩ := trodAll_nil h
    rfl
  | t :: ts, vs, ds, ps, ht, h, hlt, hsp => by
    obtain ⟨v, vs', d, ds', p, q, rfl, rfl, rfl, h0, h1⟩ := trodAll_cons h
    exact trodAll_cons_mk (WideElems.Trod_stays hl (ht t (by simp)).1 (ht t (by simp)).2 h0 (fun x hx => hb.same (hlt x (by simp [hx]))) (fun x hx => hsp x (by simp [hx])))
      (trodAll_stays hl hb (fun t' h' => ht t' (by simp [h'])) h1 (fun x hx => hlt x (by simp [hx])) (fun x hx => hsp x (by simp [hx])))
/-- A LAW's LAST STEP: it has returned true, and nothing old has turned. -/
theorem law_post {f : Func} {s : ChangeSpec} {apart fresh handsOn again : Bool} {W W' : World} {args : Array Value} {ds gs : List (DataW H)} {before : List MemPlace} {b : TypeId}
    (hl : laidOutB P = true) (hrec' : (f.params.toList.all fun t => P.readableRec t && decide (t < P.types.size)) = true) (hbool : P.underlying b = some .bool) (hrt : f.resultTypes = #[b])
    (hW : DataW.Whole enc P f.params.toList s.vars apart W args.toList ds gs before) (hv : s.vars = []) (hfn : s.fn H (ds ++ gs) = { results := [.lit (.bool true)], args := ds }) (hb : Below W.heap.size W W')
    (hok : ∀ (j : Nat) (t : TypeId) (r : Value), f.resultTypes[j]? = some t → ((Value.bool true).resultList f.resultTypes.size)[j]? = some r → Value.okWide P W' .any 0 t r) :
    s.post enc P f apart fresh handsOn again W args (.bool true) W' := by
  have hrec : ∀ t ∈ f.params.toList, P.readableRec t = true ∧ t < P.types.size := fun t ht => by
    have := List.all_eq_true.1 hrec' t ht
    simpa using this
  have hlt := hW.lt
  obtain ⟨p, q, hA, hV, hpq, _, _⟩ := id hW
  rw [hv] at hV
  obtain ⟨rfl, rfl⟩ := trodVars_none hV
  subst hpq
  refine post_of_below (pa := p) (pv := []) hW ?_ ?_ ?_ rfl hb hok
  · intro b' sp hd
    rw [hfn, hrt]
    exact trodAll_cons_mk (shut_bool hbool _) trodAll_mk0
  · intro sp hsp
    rw [hfn]
    exact trodAll_stays hl hb hrec hA (fun x hx => hlt x (by simp [hx])) (fun x hx => hsp x (by simp [hx]))
  · intro sp hsp
    rw [hfn, hv]
    rfl
end Go.Proofs.YtfgeldeaahdddaaDoor.Lx
