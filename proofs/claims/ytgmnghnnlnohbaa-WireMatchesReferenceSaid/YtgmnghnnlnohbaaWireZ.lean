/- For any bytes and any list of operations, the law WireMatchesReference returns true and leaves its arguments as they were. No condition. -/
import Derived.Test.YtgmnghnnlnohbaaRows
import Derived.Test.YtgmnghnnlnohbaaWireH
import Derived.Test.YtgmnghnnlnohbaaOpen
namespace Go.Proofs.Ytgmnghnnlnohbaa
open Go.ChangeShapes Go.WideShapes Go.ChangeAt Go.RowKit Go.Deep Lx

theorem own : ownKnob Try.prog.godebug = none := by kernel_rfl
theorem laidOut : laidOutB Try.prog = true := by kernel_rfl
theorem cells5 : Try.prog.cellsOf 5 = 1 := by kernel_rfl
def opOf {H : Type} : DataW H → Int × Int
  | .agg [.lit (.int _ a), .lit (.int _ b)] => (a, b)
  | _ => (0, 0)
theorem open_ops {H : Type} {enc : TypeId × Value → H} {w : World} {fuel : Nat} {v : Value} {x : DataW H × List MemPlace} (h : DataW.trod enc Try.prog w 0 (fun _ => true) true fuel 23 [v] = some x) :
    ∃ (A : Option Addr) (ops : List (Int × Int)) (c : Nat), v = .slice A ops.length c ∧ Rep (fun _ => True) w v (.sl 2 (opCells ops)) := by
  rcases slice_parts Try.underlying23 h with ⟨rfl, _⟩ | ⟨a, len, cap, n, es, sp, _, rfl, hl, hm, _, hes, he⟩
  · exact ⟨none, [], 0, rfl, .nil _ _ _⟩
  · refine ⟨some a, es.map opOf, cap, by simp [hes], rep_slice (by rw [opCells_len]; simp [hes]) (by decide) hl (by simp only [maxLen] at hm; omega) trivial fun j hj => ?_⟩
    have hj2 : j < es.length * 2 := by rw [opCells_len] at hj; simpa using hj
    have hi : j / 2 < es.length := by omega
    obtain ⟨cs, y, h1, h2, h3⟩ := he (j / 2) hi
    obtain ⟨ys, m, _, hy, hyl, hcl, hf⟩ := struct_parts (P := Try.prog) Try.underlying31 (by kernel_rfl) (by kernel_rfl) h2
    obtain ⟨v0, y0, c0, q0, t0⟩ := hf 0 _ rfl
    obtain ⟨v1, y1, c1, q1, t1⟩ := hf 1 _ rfl
    obtain ⟨n0, hv0, rfl, _⟩ := DataW.trod_int Try.underlying3 t0
    obtain ⟨n1, hv1, rfl, _⟩ := DataW.trod_int Try.underlying3 t1
    cases hv0
    cases hv1
    have hys : ys = [(.lit (.int .i64 n0), []), (.lit (.int .i64 n1), [])] := by
      match ys, hyl, q0, q1 with
      | [a, b], _, q0, q1 => simp at q0 q1; rw [q0, q1]
    have ho : (es.map opOf)[j / 2]? = some (n0, n1) := by
      rw [List.getElem?_map, List.getElem?_eq_getElem hi, ← h3, hy, hys]
      rfl
    have ho' : (es.map opOf)[j / 2]'(by simpa using hi) = (n0, n1) := by
      have := (List.getElem?_eq_some_iff.1 ho).2
      exact this
    have hC : Try.prog.cellsOf 31 = 2 := by kernel_rfl
    rw [hC] at h1
    obtain ⟨o1, o2⟩ := opCells_at (es.map opOf) (j / 2) (by simpa using hi)
    rw [ho'] at o1 o2
    rcases Nat.mod_two_eq_zero_or_one j with hm2 | hm2
    · have hje : j / 2 * 2 = j := by omega
      have := cells_at h1 0 (by omega) c0
      rw [add_add, Nat.add_zero, hje] at this
      refine ⟨_, this, ?_⟩
      rw [hje] at o1
      rw [(List.getElem?_eq_some_iff.1 o1).2]
      exact .val _
    · have hje : j / 2 * 2 + 1 = j := by omega
      have := cells_at h1 1 (by omega) c1
      rw [add_add, hje] at this
      refine ⟨_, this, ?_⟩
      rw [hje] at o2
      rw [(List.getElem?_eq_some_iff.1 o2).2]
      exact .val _

set_option maxRecDepth 100000 in
theorem wire_contract (H : Type) (enc : TypeId × Value → H) (W : World) (base : Nat) (args : Array Value) (ds gs : List (DataW H)) (before : List MemPlace)
    (hval : ∀ (j : Nat) t v, Try.f3.params[j]? = some t → args[j]? = some v → Value.okWide Try.prog W .any base t v)
    (hW : DataW.Whole enc Try.prog Try.f3.params.toList Rows.wireMatchesReferenceSpec.vars false W args.toList ds gs before) :
    Calls Try.prog 3 args W fun e W' => ∃ v, e = .returned v ∧ Rows.wireMatchesReferenceSpec.post enc Try.prog Try.f3 false true false false W args v W' := by
  have hW' := hW
  obtain ⟨p, q, hA0, hV, rfl, hfz, hnd⟩ := hW
  have hA : DataW.TrodAll enc Try.prog W 0 (fun _ => true) true Try.f3.params.toList args.toList ds p := hA0
  rw [Try.params3] at hA hval
  obtain ⟨v0, vs0, d0, ds0, p0, q0, hargs, rfl, rfl, ⟨n0, h0⟩, r0⟩ := trodAll_cons hA
  obtain ⟨v1, vs1, d1, ds1, p1, q1, rfl, rfl, rfl, ⟨n1, h1⟩, r1⟩ := trodAll_cons r0
  obtain ⟨rfl, rfl, rfl⟩ := trodAll_nil r1
  obtain rfl : args = #[v0, v1] := by cases args; simp_all
  obtain ⟨rfl, rfl⟩ := trodVars_none hV
  obtain ⟨a0, l0, c0, rfl⟩ := okWide_slice Try.underlying22 (hval 0 22 v0 rfl rfl)
  obtain ⟨a1, l1, c1, rfl⟩ := okWide_slice Try.underlying23 (hval 1 23 v1 rfl rfl)
  obtain ⟨A, xs, c, hv, hr, _⟩ := open_byts Try.underlying22 Try.underlying5 cells5 h0
  obtain ⟨AL, ops, cl, hv2, hr2⟩ := open_ops h1
  cases hv
  cases hv2
  clear hA0 h0 h1
  refine (law_calls _ _ _ _ _ _ xs ops W hr hr2).mono fun e W' ⟨he, hb⟩ => ?_
  subst he
  exact ⟨_, rfl, law_post laidOut (by kernel_rfl) Try.underlying4 rfl hW' rfl rfl hb (ok_one (by kernel_rfl) rfl (okWide_bool_mk Try.underlying4 _))⟩

set_option maxRecDepth 100000 in
theorem wire_lifted (os : Os) (started : os.Started) (H : Type) (enc : TypeId × Value → H) :
    ReturnsInHanded {} Try.checked os 3 .any (Rows.wireMatchesReferenceSpec.pre6 enc Try.prog Try.f3 [] false) (Rows.wireMatchesReferenceSpec.post enc Try.prog Try.f3 false true false false) :=
  returnsInHanded_of_change (C := Try.checked) (s := Rows.wireMatchesReferenceSpec) own started (by kernel_rfl) Try.func3
    (ChangeSpec.witness6 (enc := enc) (C := Try.checked) false ⟨#[], #[.slice none 0 0, .slice none 0 0], []⟩ 8 (by kernel_rfl) (by kernel_rfl) (by kernel_rfl) (by kernel_rfl))
    (fun W base args ds gs before hval hW _ _ => wire_contract H enc W base args ds gs before hval hW)

/-- WireMatchesReference, for every input. -/
theorem wire_holds : Rows.WireMatchesReferenceSaid :=
  OpenClaim.holds_of_wide 3 Try.f3 rfl rfl rfl rfl rfl rfl rfl ⟨rfl, rfl, rfl, rfl, rfl⟩ rfl rfl rfl rfl rfl (by kernel_rfl) Try.func3 (by kernel_rfl)
    (of_decide_eq_true (by kernel_rfl)) (by unfold Func.isWrapper; first | (rw [if_pos (by decide +kernel)]; kernel_rfl) | (rw [if_neg (by decide +kernel)]; exact ⟨rfl, rfl⟩))
    (fun os started H enc _ => wire_lifted os started H enc)
#print axioms wire_holds
end Go.Proofs.Ytgmnghnnlnohbaa
