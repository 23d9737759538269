/- append as one step of a region that draws its order. -/
import Derived.Test.YtfgeldeaahdddaaDoorLx
import Derived.Deep.RegionLaw
import Derived.Deep.RegionHeld3
set_option linter.unusedVariables false
namespace Go.Proofs.YtfgeldeaahdddaaDoor.Lx
open Go.RowKit
section
variable {P : Program} {ops : Array Oper} {o : Oper} {a : Act} {Q : Exit → Act → World → Prop} {K : Act → World → Prop} {E : Prop}
theorem step_event {W w1 : World} {v : Value} (hgd : o.guard = none) (hrun : (execOp a.eval o).run P W = .ok (.value v) w1) (h : K (a.put o.dst v) w1) : if Region.wanted o (yielded ops a.tmps) = true then Oper.wp P o a W K Q else E := by
  have hw : Region.wanted o (yielded ops a.tmps) = true := by simp [Region.wanted, hgd]
  rw [if_pos hw]
  unfold Oper.wp
  rw [hrun]
  exact h
/-- append(v, ys...), byts. -/
theorem step_append_bytes {Sy : Nat → Prop} {W : World} {B : Nat} {T t : TypeId} (hgd : o.guard = none) (s x : Operand) (ho : o.op = .call { callee := .builtin .append, args := #[s, x], argTypes := #[t, t] })
    (ht : P.underlying t = some (.slice T)) (hinfo : (P.info? T).map (fun i => (i.zero, i.size, i.bytes)) = some (some (.int .u8 0), 1, 1))
    (v : Value) (xs ys : List UInt8) (u : Value) (hs : a.eval s = v) (hx : a.eval x = u) (HO : Own (fun _ => False) W B T v 1 (xs.map byteCell)) (HR : Rep Sy W u (byts ys)) (hB : B ≤ W.heap.size)
    (hlen : xs.length + ys.length ≤ 140737488355328)
    (h : ∀ v1 w1, Own (fun _ => False) w1 B T v1 1 ((xs ++ ys).map byteCell) → (∀ w0, Below B w0 W → Below B w0 w1) → W.grownBy w1 v.ownBlock → (v1.ownBlock = v.ownBlock ∨ v1.ownBlock = some W.heap.size) → K (a.put o.dst v1) w1) :
    if Region.wanted o (yielded ops a.tmps) = true then Oper.wp P o a W K Q else E := by
  obtain ⟨A, c, rfl, hc, hm, hp⟩ := byts_parts HR
  obtain ⟨v1, w1, hr, h1, h2, h3⟩ := own_append_run (P := P) (ty := o.type) ht hinfo rfl Nat.one_pos Nat.one_pos HO hB A ys.length c (ys.map fun b => .int .u8 (b.toNat : Int)) (by simp)
    (fun ad hA j u hu => by
      subst hA
      rw [List.getElem?_map, Option.map_eq_some_iff] at hu
      obtain ⟨b, hb, rfl⟩ := hu
      obtain ⟨hj, rfl⟩ := List.getElem?_eq_some_iff.1 hb
      obtain ⟨ad', h1, h2⟩ := hp j hj
      injection h1 with h1
      subst h1
      exact h2)
    (fun hA => by
      rcases Nat.eq_zero_or_pos ys.length with h | h
      · exact h
      · obtain ⟨ad, h1, _⟩ := hp 0 h
        rw [hA] at h1; cases h1)
    (by intro u hu; rw [List.mem_map] at hu; obtain ⟨b, _, rfl⟩ := hu; rfl) (ys := ys.map byteCell) (by simp) (fun j h1 h2 => by simp only [List.getElem_map, byteCell]; exact .val _)
    (fun n hn => by have : xs.length = n := by simpa using hn
                    omega)
  refine step_event hgd (v := v1) (w1 := w1) ?_ (h v1 w1 (by rw [List.map_append]; exact h1) (fun w0 hb => hb.grown h2 hB fun k hk => (HO.lt k hk).1) h2 h3)
  simp only [execOp, ho, resolve, invoke, builtin, Sem.run_bind, Sem.run_pure, Result.andThen_ok, List.map_toArray, List.map_cons, List.map_nil, hs, hx, hr]
/-- append(v, y), one element whose cells are 'news': behind the variadic's box. -/
theorem step_append_one' {S : Nat → Prop} {W : World} {B : Nat} {T t : TypeId} {z : Value} {sz by_ : Nat} (hgd : o.guard = none) (s x : Operand) (ho : o.op = .call { callee := .builtin .append, args := #[s, x], argTypes := #[t, t] })
    (ht : P.underlying t = some (.slice T)) (hinfo : (P.info? T).map (fun i => (i.zero, i.size, i.bytes)) = some (some z, sz, by_)) (hz : z.cells.size = sz) (hs0 : 0 < sz) (hb0 : 0 < by_)
    (v : Value) (es ys : List Cl) (news : List Value) (hs : a.eval s = v) (g : Nat) (hg : g = W.heap.size) (hx : a.eval x = .slice (some ⟨g, 0, none⟩) 1 1) (HO : Own S W B T v sz es) (hB : B ≤ W.heap.size)
    (hnl : news.length = sz) (h1 : ∀ u ∈ news, u.oneCell' = true) (hly : ys.length = sz) (hys : ∀ j (h1 : j < news.length) (h2 : j < ys.length), Rep (fun k => S k ∧ some k ≠ v.ownBlock) W news[j] ys[j])
    (hlen : ∀ n, es.length = n * sz → (n + 1) * by_ ≤ 140737488355328)
    (h : ∀ v1 w1, Own S w1 B T v1 sz (es ++ ys) → (∀ w0, Below B w0 W → Below B w0 w1) → W.grownBy w1 v.ownBlock → (v1.ownBlock = v.ownBlock ∨ v1.ownBlock = some (W.heap.size + 1)) → K (a.put o.dst v1) w1) :
    if Region.wanted o (yielded ops a.tmps) = true then Oper.wp P o a (W.alloc (.cells news.toArray T)) K Q else E := by
  subst hg
  have hb : Below W.heap.size W (W.alloc (.cells news.toArray T)) := (Below.refl _ _).alloc (Nat.le_refl _) _
  obtain ⟨v1, w1, hr, h2, h3, h4⟩ := own_append_run (P := P) (W := W.alloc (.cells news.toArray T)) (ty := o.type) ht hinfo hz hs0 hb0 (HO.below hb) (by simp; omega) (some ⟨W.heap.size, 0, none⟩) 1 1 news (by omega)
    (fun ad hA j u hu => by
      injection hA with hA
      subst hA
      have h5 : (W.alloc (.cells news.toArray T)).heap[W.heap.size]? = some (.cells news.toArray T (0, 0)) := by
        show (W.heap.push _)[W.heap.size]? = _
        rw [Array.getElem?_push, if_pos rfl]
      have := World.news_of_block (cs := news.toArray) (t := T) (fr := (0, 0)) h5 j u (by simpa using hu)
      simpa using this)
    (fun hA => by cases hA) h1 (by omega) (fun j h5 h6 => (hys j h5 h6).frame hb (fun k _ hlt => hlt)) hlen
  refine step_event hgd (v := v1) (w1 := w1) ?_ (h v1 w1 h2 (fun w0 hb' => (hb'.alloc hB _).grown h3 (by simp; omega) fun k hk => (HO.lt k hk).1) ?_ ?_)
  · simp only [execOp, ho, resolve, invoke, builtin, Sem.run_bind, Sem.run_pure, Result.andThen_ok, List.map_toArray, List.map_cons, List.map_nil, hs, hx, hr]
  · exact World.grownBy.trans (World.grownBy_alloc W _ _) h3
  · rcases h4 with h4 | h4
    · exact .inl h4
    · exact .inr (by rw [h4]; simp)
end
end Go.Proofs.YtfgeldeaahdddaaDoor.Lx
