/- The reader of layer 1: At, Left, width, New, Take, and the reference's Take. -/
import Derived.Test.YtgmnghnnlnohbaaSmall
set_option linter.unusedVariables false
set_option linter.unusedSimpArgs false
namespace Go.Proofs.Ytgmnghnnlnohbaa
open Go.RowKit Lx

theorem slice_mid3 {P : Program} {t e : TypeId} (ht : P.underlying t = some (.slice e)) (hinfo : (P.info? e).map (fun i => (i.zero, i.size, i.bytes)) = some (some (.int .u8 0), 1, 1)) {S : Nat → Prop} {w : World} {A : Option Addr} {c : Nat} {b : List UInt8}
    (hR : Rep S w (.slice A b.length c) (byts b)) (lo l : Nat) (h : lo + l ≤ b.length) :
    ∃ A', (∀ W : World, (Instr.slice t (.slice A b.length c) (some (.int .i64 (lo : Int))) (some (.int .i64 ((lo : Int) + (l : Int)))) (some (.int .i64 ((lo : Int) + (l : Int))))).run P W = .ok (.slice A' l l) W) ∧ Rep S w (.slice A' l l) (byts ((b.drop lo).take l)) := by
  obtain ⟨i, hi, hzz⟩ := Option.map_eq_some_iff.1 hinfo
  simp only [Prod.mk.injEq] at hzz
  obtain ⟨hz0, hz1, hz2⟩ := hzz
  obtain ⟨A1, c1, he, hc, hm, hp⟩ := byts_parts hR
  cases he
  refine ⟨if lo + l = lo then A else A.map (·.add lo), fun W => ?_, ?_⟩
  · have hel : P.elem t = e := by simp [Program.elem, ht]
    have hu : P.underlying t = some (.slice (P.elem t)) := by rw [hel]; exact ht
    rw [run_slice_lhm W t A b.length c hu .i64 .i64 .i64 (lo : Int) ((lo : Int) + (l : Int)) ((lo : Int) + (l : Int)) (by omega) (by omega) (by omega) (by omega), hel]
    have h1 : ((lo : Int) + (l : Int)).toNat = lo + l := by omega
    simp [sizeOf, typeInfo, hi, hz1, sliced, Result.andThen, h1]
  · have hlen : ((b.drop lo).take l).length = l := by rw [List.length_take, List.length_drop]; omega
    by_cases h0 : l = 0
    · subst h0
      have : (b.drop lo).take 0 = [] := by simp
      rw [this]
      exact .nil _ _ _
    · rw [if_neg (by omega)]
      obtain ⟨ad, rfl, _⟩ := hp 0 (by omega)
      have hS : S ad.block := by
        obtain ⟨A2, n2, c2, he2, _, _, _, hp2⟩ := Rep.parts hR
        injection he2 with e1 e2 e3
        obtain ⟨ad2, h3, h4, _⟩ := hp2 (by omega)
        rw [← e1] at h3
        injection h3 with h3
        rw [h3]
        exact h4
      have h2 := bytes_mk (S := S) (w := w) (ad := ad.add lo) (c := l) (xs := (b.drop lo).take l) (by omega) (by omega) (fun _ => by rw [add_block]; exact hS) (fun i hi => by
        have hi' : i < l := by omega
        obtain ⟨ad', h3, h4⟩ := hp (lo + i) (by omega)
        cases h3
        have ha : (ad.add lo).add i = ad.add (lo + i) := by
          unfold Addr.add
          by_cases h5 : lo = 0
          · subst h5; simp
          · by_cases h6 : i = 0
            · subst h6; simp [h5]
            · simp [h5, h6, Nat.add_assoc]
        rw [ha, h4]
        simp)
      rw [hlen] at h2
      exact h2

def wid (n : Int) : Bool := decide (n = 1 ∨ n = 2 ∨ n = 4 ∨ n = 8)
theorem width_any (n : Int) (w : World) : Calls Try.prog 17 #[.int .i64 n] w fun e w' => e = .returned (.bool (wid n)) ∧ w' = w := by
  by_cases h1 : n = 1
  · have hv := Lib.hid (show wid n = true by simp [wid, h1])
    have hb : (n == 1) = true := by simp [h1]
    have H1 := Lib.hid h1
    clear h1
    go_enter Try.func17, Try.ntmps17
    go_wp2
    go_ret
    exact ⟨ret_bool hv.out.symm, rfl⟩
  · have hb1 : (n == 1) = false := by simp [h1]
    by_cases h2 : n = 2
    · have hv := Lib.hid (show wid n = true by simp [wid, h2])
      have hb : (n == 2) = true := by simp [h2]
      have H1 := Lib.hid h1
      have H2 := Lib.hid h2
      clear h1 h2
      go_enter Try.func17, Try.ntmps17
      go_wp2
      go_ret
      exact ⟨ret_bool hv.out.symm, rfl⟩
    · have hb2 : (n == 2) = false := by simp [h2]
      by_cases h4 : n = 4
      · have hv := Lib.hid (show wid n = true by simp [wid, h4])
        have hb : (n == 4) = true := by simp [h4]
        have H1 := Lib.hid h1
        have H2 := Lib.hid h2
        have H4 := Lib.hid h4
        clear h1 h2 h4
        go_enter Try.func17, Try.ntmps17
        go_wp2
        go_ret
        exact ⟨ret_bool hv.out.symm, rfl⟩
      · have hb4 : (n == 4) = false := by simp [h4]
        have hv := Lib.hid (show wid n = (n == 8) by simp only [wid, h1, h2, h4, false_or]; rw [Bool.eq_iff_iff]; simp)
        have H1 := Lib.hid h1
        have H2 := Lib.hid h2
        have H4 := Lib.hid h4
        clear h1 h2 h4
        go_enter Try.func17, Try.ntmps17
        go_wp2
        go_ret
        exact ⟨ret_bool hv.out.symm, rfl⟩

/-- The reader in memory: block g, at the offset i of the bytes b. -/
def Rdr (w : World) (g : Nat) (A : Option Addr) (c : Nat) (b : List UInt8) (i : Int) : Prop := w.heap[g]? = some (.cells #[.slice A b.length c, .int .i64 i] 47 (0, 0))

theorem At_any (g : Nat) (A : Option Addr) (c : Nat) (b : List UInt8) (i : Int) (w : World) (hx : Rdr w g A c b i) :
    Calls Try.prog 12 #[.pointer (some ⟨g, 0, none⟩)] w fun ev w' => ev = .returned (.int .i64 i) ∧ w' = w := by
  unfold Rdr at hx
  have q0 := blk_cell hx 0
  have q1 := blk_cell hx 1
  simp only [List.getElem?_toArray, List.getElem?_cons_zero, List.getElem?_cons_succ] at q0 q1
  clear hx
  go_enter Try.func12, Try.ntmps12
  go_wp2
  go_ret
  exact ⟨rfl, rfl⟩
theorem Left_any (g : Nat) (A : Option Addr) (c : Nat) (b : List UInt8) (i : Nat) (w : World) (hx : Rdr w g A c b i) (hb : b.length ≤ 1000) (hi : i ≤ b.length) :
    Calls Try.prog 13 #[.pointer (some ⟨g, 0, none⟩)] w fun ev w' => ev = .returned (.int .i64 ((b.length : Int) - i)) ∧ ∃ n, w' = w.drewN n := by
  unfold Rdr at hx
  have q0 := blk_cell hx 0
  have q1 := blk_cell hx 1
  simp only [List.getElem?_toArray, List.getElem?_cons_zero, List.getElem?_cons_succ] at q0 q1
  clear hx
  go_enter Try.func13, Try.ntmps13
  go_wp2
  go_quiet (fail)
  go_wp2
  go_ret
  exact ⟨rfl, _, rfl⟩
theorem New_any (S : Nat → Prop) (A : Option Addr) (c : Nat) (xs : List UInt8) (w : World) (hr : Rep S w (.slice A xs.length c) (byts xs)) (hx : xs.length ≤ 1000) :
    Calls Try.prog 5 #[.slice A xs.length c] w fun ev w' => ∃ g A' c', ev = .returned (.pointer (some ⟨g, 0, none⟩)) ∧ w.heap.size ≤ g ∧ Rdr w' g A' c' xs 0 ∧ Rep (fun k => w.heap.size ≤ k ∧ k ≠ g) w' (.slice A' xs.length c') (byts xs) ∧ Below w.heap.size w w' := by
  have HR := Lib.hid hr
  clear hr
  go_enter Try.func5, Try.ntmps5
  go_wp2_with (go_at_call 16; go_must (refine (Clone_any S A c xs _ HR.out (by omega)).mono ?_; rintro e w1 ⟨v, rfl, ho, hbl⟩; obtain ⟨A', c', rfl, hcc, hmm⟩ := ho.bytes_slice; have HO := Lib.hid ho; have HB := Lib.hid hbl; clear ho hbl))
  go_ret
  refine ⟨w1.heap.size, A', c', rfl, HB.out.size, new_block _ _, ?_, bl_alloc HB.out _⟩
  have h1 := (HO.out.bytes_rep).now.old (bl_alloc (bl_refl w1) (.cells #[.slice A' xs.length c', .int .i64 0] 47 (0, 0)))
  exact h1.mono fun k hk _ => ⟨hk.1, by omega⟩
end Go.Proofs.Ytgmnghnnlnohbaa
