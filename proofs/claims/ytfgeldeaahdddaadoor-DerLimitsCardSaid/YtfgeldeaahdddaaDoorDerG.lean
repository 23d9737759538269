/- The reader's lengths. -/
import Derived.Test.YtfgeldeaahdddaaDoorDerB
import Derived.Test.YtfgeldeaahdddaaDoorWidth
import Derived.Laws.BitsAllLaws
set_option linter.unusedVariables false
set_option linter.unusedSimpArgs false
namespace Go.Proofs.YtfgeldeaahdddaaDoor
open Go.RowKit Lx

/-- The error of a code and an offset; none for the code 0. -/
def errV (c a : Nat) : Value := if c = 0 then .nilIface else .iface 70 (.agg #[.int .i64 (c : Int), .int .i64 (a : Int)])
theorem errV_0 (a : Nat) : errV 0 a = .nilIface := rfl
theorem errV_pos (c a : Nat) (h : c ≠ 0) : errV c a = .iface 70 (.agg #[.int .i64 (c : Int), .int .i64 (a : Int)]) := if_neg h
theorem or_byte (n b : Nat) (hb : b < 256) (hn : n ≤ 4294967296) : Go.bits .or .i64 ((n : Int) * 256) (b : Int) = (n : Int) * 256 + b :=
  bits_join .i64 62 (by decide) (fun x h0 h1 => by rw [IntKind.wrap_i64]; omega) 8 _ _ (by omega) (by omega) (by omega) (by omega) (by omega) (by omega)
theorem big_le (l : List UInt8) (h : l.length ≤ 3) : big l ≤ 16777215 := by
  match l, h with
  | [], _ => simp [big]
  | [a], _ => have := UInt8.toNat_lt a; simp [big]; omega
  | [a, b], _ => have := UInt8.toNat_lt a; have := UInt8.toNat_lt b; simp [big]; omega
  | [a, b, c], _ => have := UInt8.toNat_lt a; have := UInt8.toNat_lt b; have := UInt8.toNat_lt c; simp [big]; omega
theorem plen_len (b : List UInt8) (i e : Nat) (he : e ≤ b.length) : (plen b i e).len ≤ 16777215 := by
  unfold plen
  split
  · simp
  · split
    · show (b.getD i 0).toNat ≤ _; omega
    · split
      · simp
      · split
        · simp
        · split
          · simp
          · refine big_le _ ?_
            rw [cut_length _ _ _ (by omega)]
            omega
theorem cut_snoc (b : List UInt8) (i j : Nat) (h : i ≤ j) (hj : j < b.length) : cut b i (j + 1) = cut b i j ++ [b[j]] := by
  rw [← cut_cat b i j (j + 1) h (by omega), cut_one b j hj]
  simp [List.getD_eq_getElem?_getD, List.getElem?_eq_getElem hj]

/-- The reader in memory: block g, at the offset i of the bytes b. -/
def Rdr (w : World) (g : Nat) (A : Option Addr) (c : Nat) (b : List UInt8) (i : Int) : Prop := w.heap[g]? = some (.cells #[.slice A b.length c, .int .i64 i] 59 (0, 0))

set_option maxRecDepth 100000 in
set_option maxHeartbeats 2000000 in
theorem length_any (S : Nat → Prop) (g : Nat) (A : Option Addr) (c : Nat) (b : List UInt8) (i e : Nat) (w : World) (hr : Rep S w (.slice A b.length c) (byts b)) (hS : ∀ k, S k → k ≠ g) (hx : Rdr w g A c b i) (he : e ≤ b.length) (hi : i ≤ e) (hb : b.length ≤ 1000000000000) :
    Calls Tryd.prog 37 #[.pointer (some ⟨g, 0, none⟩), .int .i64 (e : Int)] w
      fun ev w' => ev = .returned (.tuple #[.int .i64 ((plen b i e).len : Int), errV (plen b i e).code (plen b i e).at_]) ∧ w.grownBy w' (some g) ∧ ∃ j : Int, Rdr w' g A c b j ∧ ((plen b i e).code = 0 → j = (plen b i e).next) := by
  obtain ⟨_, _, h, hc, hm, hp⟩ := byts_parts hr
  cases h
  unfold Rdr at hx
  have q0 := blk_cell hx 0
  have q1 := blk_cell hx 1
  have fz := blk_frozen hx 1
  simp only [List.getElem?_toArray, List.getElem?_cons_zero, List.getElem?_cons_succ] at q0 q1
  have HX := Lib.hid hx
  have HP := Lib.hid hp
  have HR := Lib.hid hr
  have HPL := Lib.hid (show plen b i e = plen b i e from rfl)
  clear hx hp hr
  by_cases c1 : e ≤ i
  · have HV := Lib.hid (show plen b i e = ⟨0, 0, 3, e⟩ by unfold plen; rw [if_pos c1])
    go_enter Tryd.func37, Tryd.ntmps37
    go_wp2_with (go_at_call 23; go_must (refine (New_any _ _ _).mono ?_; rintro e w1 ⟨rfl, rfl⟩))
    go_ret2
    rw [HV.out]
    exact ⟨rfl, gr_refl _ _, _, HX.out, fun h => by simp at h⟩
  · have hlt : i < b.length := by omega
    obtain ⟨ad, rfl, d0⟩ := HP.out i hlt
    have hgd : b.getD i 0 = b[i] := by simp [List.getD_eq_getElem?_getD, List.getElem?_eq_getElem hlt]
    have hx256 := UInt8.toNat_lt b[i]
    have HG := Lib.hid hgd
    clear hgd
    by_cases c2 : (b[i]).toNat < 128
    · have HV := Lib.hid (show plen b i e = ⟨(b[i]).toNat, i + 1, 0, 0⟩ by unfold plen; rw [if_neg c1, HG.out, if_pos c2])
      go_enter Tryd.func37, Tryd.ntmps37
      go_wp2
      go_quiet (fail)
      go_wp2
      go_ret2
      rw [HV.out]
      exact ⟨rfl, gr_set (gr_drewN (gr_refl _ _) _) _ _, _, blk_set (w := w.drewN _) HX.out 1 _, fun _ => rfl⟩
    · by_cases c3 : (b[i]).toNat = 128 ∨ 131 < (b[i]).toNat
      · have HV := Lib.hid (show plen b i e = ⟨0, 0, 6, i⟩ by unfold plen; rw [if_neg c1, HG.out, if_neg c2, if_pos c3])
        have hq : (((b[i].toNat : Nat) : Int) == 128) = decide (b[i].toNat = 128) := by rw [Bool.eq_iff_iff]; simp; omega
        rcases c3 with c3 | c3
        · have hq1 : (((b[i].toNat : Nat) : Int) == 128) = true := by simp; omega
          clear hq
          have H3 := Lib.hid c3
          clear c3
          go_enter Tryd.func37, Tryd.ntmps37
          go_wp2
          go_quiet (fail)
          go_wp2_with (go_at_call 23; go_must (refine (New_any _ _ _).mono ?_; rintro e w1 ⟨rfl, rfl⟩))
          go_ret2
          rw [HV.out]
          exact ⟨rfl, gr_set (gr_drewN (gr_refl _ _) _) _ _, _, blk_set (w := w.drewN _) HX.out 1 _, fun h => by simp at h⟩
        · have hq1 : (((b[i].toNat : Nat) : Int) == 128) = false := by simp; omega
          clear hq
          go_enter Tryd.func37, Tryd.ntmps37
          go_wp2
          go_quiet (fail)
          go_wp2_with (go_at_call 23; go_must (refine (New_any _ _ _).mono ?_; rintro e w1 ⟨rfl, rfl⟩))
          go_ret2
          rw [HV.out]
          exact ⟨rfl, gr_set (gr_drewN (gr_refl _ _) _) _ _, _, blk_set (w := w.drewN _) HX.out 1 _, fun h => by simp at h⟩
      · obtain ⟨k, hk⟩ : ∃ k, (b[i]).toNat = 128 + k := ⟨(b[i]).toNat - 128, by omega⟩
        have hk1 : 1 ≤ k := by omega
        have hk3 : k ≤ 3 := by omega
        have HV := Lib.hid (show plen b i e = if e < i + 1 + k then ⟨0, 0, 3, e⟩ else if big (cut b (i + 1) (i + 1 + k)) < 128 ∨ (num (big (cut b (i + 1) (i + 1 + k)))).length ≠ k then ⟨0, 0, 6, i⟩ else ⟨big (cut b (i + 1) (i + 1 + k)), i + 1 + k, 0, 0⟩ by
          unfold plen; rw [if_neg c1, HG.out, if_neg c2, if_neg c3, hk, show 128 + k - 128 = k by omega])
        have HK := Lib.hid hk
        have hq1 : (((b[i].toNat : Nat) : Int) == 128) = false := by simp; omega
        have hf0 : 129 ≤ (b[i]).toNat := by omega
        have hf1 : (b[i]).toNat ≤ 131 := by omega
        clear hk c3 hq1
        generalize hf : (b[i]).toNat = f at HK d0 hf0 hf1 hx256 c2
        have hq1 : ((f : Int) == 128) = false := by simp; omega
        clear hf
        go_enter Tryd.func37, Tryd.ntmps37
        go_wp2
        go_quiet (fail)
        go_wp2
        go_loopw [8, 52] (fun s t wr => ∃ j : Nat, j ≤ k ∧ t = .int .i64 (j : Int) ∧ s = .int .i64 ((big (cut b (i + 1) (i + 1 + j)) : Nat) : Int) ∧ i + 1 + j ≤ e ∧ w.grownBy wr (some g) ∧ Rdr wr g (some ad) c b ((i + 1 + j : Nat) : Int)) (fun _ t _ => k - (intOf t).toNat)
        case atStart => exact ⟨0, Nat.zero_le _, rfl, by rw [show i + 1 + 0 = i + 1 from rfl, cut_same]; rfl, by omega, gr_set (gr_drewN (gr_refl _ _) _) _ _, blk_set (w := w.drewN _) HX.out 1 _⟩
        case round =>
          clear q0 q1 fz d0
          obtain ⟨j, hj, rfl, rfl, hje, hgr, hrd⟩ := hrel
          have q0 := blk_cell hrd 0
          have q1 := blk_cell hrd 1
          have fz := blk_frozen hrd 1
          simp only [List.getElem?_toArray, List.getElem?_cons_zero, List.getElem?_cons_succ] at q0 q1
          have HRD := Lib.hid hrd
          have HGR := Lib.hid hgr
          have hb24 : big (cut b (i + 1) (i + 1 + j)) ≤ 16777215 := big_le _ (by rw [cut_length _ _ _ (by omega)]; omega)
          clear hrd hgr
          by_cases hlt : j < k
          · have hjf : ((j : Nat) : Int) < (f : Int) - 128 := by have := HK.out; omega
            by_cases htr : e ≤ i + 1 + j
            · have hve : e < i + 1 + k := by omega
              have HVE := Lib.hid hve
              clear hve
              go_wp2_with (go_at_call 23; go_must (refine (New_any _ _ _).mono ?_; rintro e w1 ⟨rfl, rfl⟩))
              go_ret2
              rw [HV.out, if_pos HVE.out]
              exact ⟨rfl, HGR.out, _, HRD.out, fun h => by simp at h⟩
            · have hlb : i + 1 + j < b.length := by omega
              have hrw := HR.out.grown HGR.out (fun k hk => by intro h; injection h with h; exact hS k hk h)
              obtain ⟨_, _, h, _, _, hp⟩ := byts_parts hrw
              cases h
              obtain ⟨ad', h, d0⟩ := hp _ hlb
              cases h
              have HOR := Lib.hid (or_byte (big (cut b (i + 1) (i + 1 + j))) (b[i + 1 + j]).toNat (UInt8.toNat_lt _) (by omega))
              have HC := Lib.hid (show big (cut b (i + 1) (i + 1 + (j + 1))) = big (cut b (i + 1) (i + 1 + j)) * 256 + (b[i + 1 + j]).toNat by
                rw [show i + 1 + (j + 1) = i + 1 + j + 1 by omega, cut_snoc b _ _ (by omega) hlb, big_snoc])
              have hx2 := UInt8.toNat_lt b[i + 1 + j]
              clear hp hrw
              go_wp2
              go_quiet (fail)
              go_wp2
              go_roundw
              case rel =>
                refine ⟨j + 1, by omega, by go_num, ?_, by omega, gr_set (gr_drewN HGR.out _) _ _, ?_⟩
                · rw [HOR.out]; exact int_eq (by have := HC.out; omega)
                · have h9 := blk_set (w := wr.drewN nq) HRD.out 1 (.int .i64 (((i + 1 + (j + 1) : Nat)) : Int))
                  exact h9
              case measure => simp [intOf]; omega
          · have hjk : j = k := by omega
            subst hjk
            have hjf : ¬ ((j : Nat) : Int) < (f : Int) - 128 := by have := HK.out; omega
            have HVE := Lib.hid (show ¬ e < i + 1 + j by omega)
            generalize hv : big (cut b (i + 1) (i + 1 + j)) = v at HV hb24
            clear hv
            by_cases c5 : v < 128
            · go_wp2_with (go_at_call 23; go_must (refine (New_any _ _ _).mono ?_; rintro e w1 ⟨rfl, rfl⟩))
              go_ret2
              rw [HV.out, if_neg HVE.out, if_pos (.inl c5)]
              exact ⟨rfl, HGR.out, _, HRD.out, fun h => by simp at h⟩
            · have hnl := num_len3 v (by omega)
              by_cases c6 : (num v).length = j
              · have c6b : ((((num v).length : Nat) : Int) != (f : Int) - 128) = false := by have := HK.out; simp; omega
                have H6 := Lib.hid c6
                clear c6
                go_wp2_with (first | (go_at_call 23; go_must (refine (New_any _ _ _).mono ?_; rintro e w1 ⟨rfl, rfl⟩)) | (go_at_call 42; go_must (refine (width_any v _ (by omega)).mono ?_; rintro e w1 ⟨rfl, rfl⟩)))
                go_ret2
                rw [HV.out, if_neg HVE.out, if_neg (by have := H6.out; omega)]
                exact ⟨rfl, HGR.out, _, HRD.out, fun _ => rfl⟩
              · have c6b : ((((num v).length : Nat) : Int) != (f : Int) - 128) = true := by have := HK.out; simp; omega
                have H6 := Lib.hid c6
                clear c6
                go_wp2_with (first | (go_at_call 23; go_must (refine (New_any _ _ _).mono ?_; rintro e w1 ⟨rfl, rfl⟩)) | (go_at_call 42; go_must (refine (width_any v _ (by omega)).mono ?_; rintro e w1 ⟨rfl, rfl⟩)))
                go_ret2
                rw [HV.out, if_neg HVE.out, if_pos (.inr H6.out)]
                exact ⟨rfl, HGR.out, _, HRD.out, fun h => by simp at h⟩
end Go.Proofs.YtfgeldeaahdddaaDoor
