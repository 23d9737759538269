/- pyxref08.read: one level more. -/
import Derived.Test.YtfgeldeaahdddaaDoorDerH
set_option linter.unusedVariables false
set_option linter.unusedSimpArgs false
namespace Go.Proofs.YtfgeldeaahdddaaDoor
open Go.RowKit Lx

set_option maxRecDepth 100000 in
set_option maxHeartbeats 40000000 in
theorem read_succ (d : Nat) (ih : ReadSaid d) : ReadSaid (d + 1) := by
  intro S A c b i e ei ab w hei hab hr he hi hb hd
  subst hei
  have h8 : ab < 8 := by omega
  have h80 : 0 ≤ ab := by omega
  have HAB := Lib.hid hab
  obtain ⟨_, _, h, hc, hm, hp⟩ := byts_parts hr
  cases h
  have HP := Lib.hid hp
  have HR := Lib.hid hr
  clear hp hr hab
  by_cases c1 : e ≤ i
  · have HV := Lib.hid (show pread (d + 1) b i e = .err 3 e by unfold pread; rw [if_pos c1])
    go_enter Tryd.func25, Tryd.ntmps25
    go_wp2
    refine bodyPost_ret (read_results rfl (new_block _ _) rfl) rfl ⟨_, rfl, by rw [HV.out]; exact ResV.err _ _ _ _, bl_alloc (bl_refl _) _⟩
  · have hlt : i < b.length := by omega
    obtain ⟨ad, rfl, d0⟩ := HP.out i hlt
    have qd0 := World.block_lt_of_cell? w _ d0
    have hx256 := UInt8.toNat_lt b[i]
    have hgd : b.getD i 0 = b[i] := by simp [List.getD_eq_getElem?_getD, List.getElem?_eq_getElem hlt]
    have HG := Lib.hid hgd
    clear hgd
    cases ht : tagOk b[i]
    · have HV := Lib.hid (show pread (d + 1) b i e = .err 5 i by unfold pread; rw [if_neg c1, HG.out, if_pos ht])
      go_enter Tryd.func25, Tryd.ntmps25
      go_wp2_with (go_at_call 40; go_must (refine (Tag_any b[i] _).mono ?_; rw [ht]; rintro e w1 ⟨rfl, rfl⟩))
      refine bodyPost_ret (read_results rfl (new_block _ _) rfl) rfl ⟨_, rfl, by rw [HV.out]; exact ResV.err _ _ _ _, bl_alloc (bl_refl _) _⟩
    · have HV := Lib.hid (show pread (d + 1) b i e = if (plen b (i + 1) e).code ≠ 0 then .err (plen b (i + 1) e).code (plen b (i + 1) e).at_
    else if e < (plen b (i + 1) e).next + (plen b (i + 1) e).len then .err 3 e
    else if comp b[i] = false then ⟨⟨b[i], cut b (plen b (i + 1) e).next ((plen b (i + 1) e).next + (plen b (i + 1) e).len), []⟩, (plen b (i + 1) e).next + (plen b (i + 1) e).len, 0, 0⟩
    else ploop (fun x => pread d b x ((plen b (i + 1) e).next + (plen b (i + 1) e).len)) b[i] ((plen b (i + 1) e).next + (plen b (i + 1) e).len) ((plen b (i + 1) e).len + 1) (plen b (i + 1) e).next [] by
          rw [pread, if_neg c1, HG.out, if_neg (by rw [ht]; simp)])
      by_cases c2 : e ≤ i + 1
      · have HL := Lib.hid (show plen b (i + 1) e = ⟨0, 0, 3, e⟩ by unfold plen; rw [if_pos c2])
        go_enter Tryd.func25, Tryd.ntmps25
        go_wp2_with (go_at_call 40; go_must (refine (Tag_any b[i] _).mono ?_; rw [ht]; rintro e w1 ⟨rfl, rfl⟩))
        refine bodyPost_ret (read_results rfl (new_block _ _) rfl) rfl ⟨_, rfl, by rw [HV.out, HL.out]; exact ResV.err _ _ _ _, bl_alloc (bl_refl _) _⟩
      · have hlt1 : i + 1 < b.length := by omega
        obtain ⟨ad', h, d1⟩ := HP.out (i + 1) hlt1
        cases h
        replace d1 : w.cell? ⟨ad.block, ad.off + (i + 1), none⟩ = some (.int .u8 ((b[i + 1].toNat : Nat) : Int)) := by simpa [Addr.add] using d1
        have qd1 : ad.block < w.heap.size := World.block_lt_of_cell? w ⟨ad.block, ad.off + (i + 1), none⟩ d1
        have hy256 := UInt8.toNat_lt b[i + 1]
        have HG1 := Lib.hid (show b.getD (i + 1) 0 = b[i + 1] by simp [List.getD_eq_getElem?_getD, List.getElem?_eq_getElem hlt1])
        by_cases c3 : (b[i + 1]).toNat = 128
        · have HL := Lib.hid (show plen b (i + 1) e = ⟨0, 0, 6, i + 1⟩ by unfold plen; rw [if_neg c2, HG1.out, if_neg (by omega), if_pos (.inl c3)])
          have c3b : (((b[i + 1].toNat : Nat) : Int) == 128) = true := by simp; omega
          have H3 := Lib.hid c3
          clear c3
          go_enter Tryd.func25, Tryd.ntmps25
          go_wp2_with (go_at_call 40; go_must (refine (Tag_any b[i] _).mono ?_; rw [ht]; rintro e w1 ⟨rfl, rfl⟩))
          refine bodyPost_ret (read_results rfl (new_block _ _) rfl) rfl ⟨_, rfl, by rw [HV.out, HL.out]; exact ResV.err _ _ 6 (i + 1), bl_alloc (bl_refl _) _⟩
        · have c3b : (((b[i + 1].toNat : Nat) : Int) == 128) = false := by simp; omega
          by_cases c4 : 131 < (b[i + 1]).toNat
          · have HL := Lib.hid (show plen b (i + 1) e = ⟨0, 0, 6, i + 1⟩ by unfold plen; rw [if_neg c2, HG1.out, if_neg (by omega), if_pos (.inr c4)])
            clear c3
            go_enter Tryd.func25, Tryd.ntmps25
            go_wp2_with (go_at_call 40; go_must (refine (Tag_any b[i] _).mono ?_; rw [ht]; rintro e w1 ⟨rfl, rfl⟩))
            refine bodyPost_ret (read_results rfl (new_block _ _) rfl) rfl ⟨_, rfl, by rw [HV.out, HL.out]; exact ResV.err _ _ 6 (i + 1), bl_alloc (bl_refl _) _⟩
          · have H3 := Lib.hid c3
            clear c3
            go_enter Tryd.func25, Tryd.ntmps25
            go_upto_if 58 with (go_at_call 40; go_must (refine (Tag_any b[i] _).mono ?_; rw [ht]; rintro e w1 ⟨rfl, rfl⟩))
            go_cut [9, 10] (fun v9 v10 wc => (plen b (i + 1) e).code = 0 ∧ v9 = .int .i64 ((plen b (i + 1) e).len : Int) ∧ v10 = .int .i64 ((plen b (i + 1) e).next : Int) ∧ Below w.heap.size w wc ∧ wc.heap[w.heap.size]? = some (.cells #[.int .u8 0, .slice none 0 0, .slice none 0 0, .int .i64 0, .int .i64 0, .int .i64 0] 35 (0, 0)))
            case first =>
              have hc1 : plen b (i + 1) e = (if (b[i + 1]).toNat < 128 then ⟨(b[i + 1]).toNat, i + 1 + 1, 0, 0⟩ else if e < i + 1 + 1 + ((b[i + 1]).toNat - 128) then ⟨0, 0, 3, e⟩
                  else if big (cut b (i + 1 + 1) (i + 1 + 1 + ((b[i + 1]).toNat - 128))) < 128 ∨ (num (big (cut b (i + 1 + 1) (i + 1 + 1 + ((b[i + 1]).toNat - 128))))).length ≠ (b[i + 1]).toNat - 128 then ⟨0, 0, 6, i + 1⟩
                  else ⟨big (cut b (i + 1 + 1) (i + 1 + 1 + ((b[i + 1]).toNat - 128))), i + 1 + 1 + ((b[i + 1]).toNat - 128), 0, 0⟩) := by
                unfold plen; rw [if_neg c2, HG1.out]
                by_cases h : (b[i + 1]).toNat < 128
                · rw [if_pos h, if_pos h]
                · rw [if_neg h, if_neg h, if_neg (by have := H3.out; omega)]
              have HPL := Lib.hid hc1
              clear hc1
              by_cases c5 : (b[i + 1]).toNat < 128
              · have HL := Lib.hid (show plen b (i + 1) e = ⟨(b[i + 1]).toNat, i + 1 + 1, 0, 0⟩ by rw [HPL.out, if_pos c5])
                go_wp2
                go_meet
                rw [HL.out]
                exact ⟨rfl, rfl, rfl, bl_alloc (bl_refl _) _, new_block _ _⟩
              · obtain ⟨k, hk⟩ : ∃ k, (b[i + 1]).toNat = 128 + k := ⟨(b[i + 1]).toNat - 128, by omega⟩
                have hk1 : 1 ≤ k := by have := H3.out; omega
                have hk3 : k ≤ 3 := by omega
                have HL := Lib.hid (show plen b (i + 1) e = if e < i + 2 + k then ⟨0, 0, 3, e⟩ else if big (cut b (i + 2) (i + 2 + k)) < 128 ∨ (num (big (cut b (i + 2) (i + 2 + k)))).length ≠ k then ⟨0, 0, 6, i + 1⟩ else ⟨big (cut b (i + 2) (i + 2 + k)), i + 2 + k, 0, 0⟩ by
                  rw [HPL.out, if_neg c5, hk, show 128 + k - 128 = k by omega])
                have HK := Lib.hid hk
                have hf0 : 129 ≤ (b[i + 1]).toNat := by omega
                have hf1 : (b[i + 1]).toNat ≤ 131 := by omega
                clear hk HPL
                generalize hf : (b[i + 1]).toNat = f at *
                clear hf
                by_cases c6 : e < i + 2 + k
                · have hk9 : (e : Int) < i + 2 + (f - 128) := by have := HK.out; omega
                  have HL' := Lib.hid (show plen b (i + 1) e = ⟨0, 0, 3, e⟩ by rw [HL.out, if_pos c6])
                  go_wp2
                  refine bodyPost_ret (read_results rfl (new_block _ _) rfl) rfl ⟨_, rfl, by rw [HV.out, HL'.out]; exact ResV.err _ _ 3 e, bl_alloc (bl_refl _) _⟩
                · have hk9 : ¬ (e : Int) < i + 2 + (f - 128) := by have := HK.out; omega
                  have HL' := Lib.hid (show plen b (i + 1) e = if big (cut b (i + 2) (i + 2 + k)) < 128 ∨ (num (big (cut b (i + 2) (i + 2 + k)))).length ≠ k then ⟨0, 0, 6, i + 1⟩ else ⟨big (cut b (i + 2) (i + 2 + k)), i + 2 + k, 0, 0⟩ by rw [HL.out, if_neg c6])
                  clear HL
                  go_wp2
                  go_loop [9, 12] (fun s t => ∃ j : Nat, j ≤ k ∧ t = .int .i64 (j : Int) ∧ s = .int .i64 ((big (cut b (i + 2) (i + 2 + j)) : Nat) : Int)) (fun _ t => k - (intOf t).toNat)
                  case atStart => exact ⟨0, Nat.zero_le _, rfl, by rw [show i + 2 + 0 = i + 2 from rfl, cut_same]; rfl⟩
                  case round =>
                    obtain ⟨j, hj, rfl, rfl⟩ := hrel
                    have hb24 : big (cut b (i + 2) (i + 2 + j)) ≤ 16777215 := big_le _ (by rw [cut_length _ _ _ (by omega)]; omega)
                    by_cases hjk : j < k
                    · have hlb : i + 2 + j < b.length := by omega
                      have hjf : ((j : Nat) : Int) < (f : Int) - 128 := by have := HK.out; omega
                      obtain ⟨ad', h, d2⟩ := HP.out _ hlb
                      cases h
                      have d3 := d2
                      have q3 := World.block_lt_of_cell? w _ d3
                      replace d2 : w.cell? ⟨ad.block, ad.off + (i + 2 + j), none⟩ = some (.int .u8 ((b[i + 2 + j].toNat : Nat) : Int)) := by
                        have h0 : i + 2 + j ≠ 0 := by omega
                        simpa [Addr.add, h0] using d2
                      have hx2 := UInt8.toNat_lt b[i + 2 + j]
                      have HC := Lib.hid (show big (cut b (i + 2) (i + 2 + (j + 1))) = big (cut b (i + 2) (i + 2 + j)) * 256 + (b[i + 2 + j]).toNat by
                        rw [show i + 2 + (j + 1) = i + 2 + j + 1 by omega, cut_snoc b _ _ (by omega) hlb, big_snoc])
                      generalize big (cut b (i + 2) (i + 2 + j)) = v at *
                      go_wp2
                      go_round
                      case rel => exact ⟨j + 1, by omega, by go_num, int_eq (by have := HC.out; omega)⟩
                      case measure => simp [intOf]; omega
                    · have hjk' : j = k := by omega
                      subst hjk'
                      have hjf : ¬ ((j : Nat) : Int) < (f : Int) - 128 := by have := HK.out; omega
                      generalize hv : big (cut b (i + 2) (i + 2 + j)) = v at *
                      clear hv
                      by_cases c7 : v < 128
                      · have HL2 := Lib.hid (show plen b (i + 1) e = ⟨0, 0, 6, i + 1⟩ by rw [HL'.out, if_pos (.inl c7)])
                        go_wp2
                        refine bodyPost_ret (read_results rfl (new_block _ _) rfl) rfl ⟨_, rfl, by rw [HV.out, HL2.out]; exact ResV.err _ _ 6 (i + 1), bl_alloc (bl_refl _) _⟩
                      · have hnl := num_len3 v (by omega)
                        by_cases c8 : (num v).length = j
                        · have c8b : ((((num v).length : Nat) : Int) != (f : Int) - 128) = false := by have := HK.out; simp; omega
                          have HL2 := Lib.hid (show plen b (i + 1) e = ⟨v, i + 2 + j, 0, 0⟩ by rw [HL'.out, if_neg (by omega)])
                          have H8 := Lib.hid c8
                          clear c8
                          go_wp2_with (go_at_call 35; go_must (refine (Number_any v _ (by omega)).mono ?_; rintro e w1 ⟨v1, rfl, hrv, hb1⟩; obtain ⟨A9, c9, rfl, _⟩ := byts_parts hrv; have HB1 := Lib.hid hb1; clear hb1 hrv))
                          go_meet
                          rw [HL2.out]
                          exact ⟨rfl, rfl, int_eq (show (i : Int) + 2 + ((f : Int) - 128) = ((i + 2 + j : Nat) : Int) by have := HK.out; omega), bl_then (bl_alloc (bl_refl _) _) HB1.out, (HB1.out.block _ (by simp)).trans (new_block _ _)⟩
                        · have c8b : ((((num v).length : Nat) : Int) != (f : Int) - 128) = true := by have := HK.out; simp; omega
                          have HL2 := Lib.hid (show plen b (i + 1) e = ⟨0, 0, 6, i + 1⟩ by rw [HL'.out, if_pos (.inr c8)])
                          have H8 := Lib.hid c8
                          clear c8
                          go_wp2_with (go_at_call 35; go_must (refine (Number_any v _ (by omega)).mono ?_; rintro e w1 ⟨v1, rfl, hrv, hb1⟩; obtain ⟨A9, c9, rfl, _⟩ := byts_parts hrv; have hx9 := (hb1.block _ (by simp)).trans (new_block w (.cells #[.int .u8 0, .slice none 0 0, .slice none 0 0, .int .i64 0, .int .i64 0, .int .i64 0] 35)); have s0 := blk_cell hx9 0; have s1 := blk_cell hx9 1; have s2 := blk_cell hx9 2; have s3 := blk_cell hx9 3; have s4 := blk_cell hx9 4; have s5 := blk_cell hx9 5; have z0 := blk_frozen hx9 0; have z1 := blk_frozen hx9 1; have z2 := blk_frozen hx9 2; have z3 := blk_frozen hx9 3; have z4 := blk_frozen hx9 4; have z5 := blk_frozen hx9 5; simp only [List.getElem?_toArray, List.getElem?_cons_zero, List.getElem?_cons_succ] at s0 s1 s2 s3 s4 s5; have HX9 := Lib.hid hx9; have HB1 := Lib.hid hb1; clear hb1 hrv hx9))
                          refine bodyPost_ret (read_results rfl (blk_set6 HX9.out _ _ _ _ _ _) rfl) rfl ⟨_, rfl, by rw [HV.out, HL2.out]; exact ResV.err _ _ 6 (i + 1), ?_⟩
                          (repeat (refine bl_set ?_ (Nat.le_refl _) _)); exact bl_then (bl_alloc (bl_refl _) _) HB1.out
            case rest =>
              obtain ⟨hcode, rfl, rfl, hbw, hx8⟩ := hcut
              obtain ⟨l1, l2, _⟩ := plen_ok b (i + 1) e he hcode
              have l3 := plen_len b (i + 1) e he
              have HV2 := Lib.hid (HV.out.trans (if_neg (by rw [hcode]; simp)))
              clear HV hcode
              generalize (plen b (i + 1) e).len = l at *
              generalize (plen b (i + 1) e).next = nx at *
              have s0 := blk_cell hx8 0
              have s1 := blk_cell hx8 1
              have s2 := blk_cell hx8 2
              have s3 := blk_cell hx8 3
              have s4 := blk_cell hx8 4
              have s5 := blk_cell hx8 5
              have z0 := blk_frozen hx8 0
              have z1 := blk_frozen hx8 1
              have z2 := blk_frozen hx8 2
              have z3 := blk_frozen hx8 3
              have z4 := blk_frozen hx8 4
              have z5 := blk_frozen hx8 5
              simp only [List.getElem?_toArray, List.getElem?_cons_zero, List.getElem?_cons_succ] at s0 s1 s2 s3 s4 s5
              have HX := Lib.hid hx8
              have HB := Lib.hid hbw
              have hszw := blk_lt hx8
              replace d0 := cell_move (hbw.block _ qd0) d0
              have qd0' := World.block_lt_of_cell? wc _ d0
              clear hx8 hbw
              by_cases c6 : e < nx + l
              · have HV3 := Lib.hid (HV2.out.trans (if_pos c6))
                go_wp2
                refine bodyPost_ret (read_results rfl (blk_set6 HX.out _ _ _ _ _ _) rfl) rfl ⟨_, rfl, by rw [HV3.out]; exact ResV.err _ _ 3 e, ?_⟩
                (repeat (refine bl_set ?_ (Nat.le_refl _) _)); exact HB.out
              · have HV3 := Lib.hid (HV2.out.trans (if_neg c6))
                cases hcm : comp b[i]
                · have hcb : ((((b[i].toNat : Nat) : Int) / 32 % 2) == 0) = true := by
                    unfold comp at hcm
                    simp at hcm ⊢
                    omega
                  have HV4 := Lib.hid (HV3.out.trans (if_pos hcm))
                  obtain ⟨A', c', hsl, hrc, hlc⟩ := slice_mid (P := Tryd.prog) Tryd.underlying22 info5 HR.out nx l (by omega)
                  have hcl : cut b nx (nx + l) = (b.drop nx).take l := by unfold cut; rw [show nx + l - nx = l by omega]
                  have hlen : ((b.drop nx).take l).length = l := by rw [List.length_take, List.length_drop]; omega
                  generalize (b.drop nx).take l = ys at hrc hcl hlen
                  have HRC := Lib.hid hrc
                  have HCL := Lib.hid hcl
                  have HLEN := Lib.hid hlen
                  clear hrc hcl hlen
                  go_wp2_with (at_builtin; go_must (refine wp_append_bytes (B := wc.heap.size + 1) rfl _ _ rfl Tryd.underlying22 info5 _ [] ys _ rfl rfl (own_lit_bytes' [] (by simp) (by simp) rfl (by simp) (by simp)) (HRC.out.old (bl_then HB.out (bl_alloc (bl_alloc (bl_refl _) _) _))) (by first | (simp; done) | omega) (by have := HLEN.out; simp; omega) ?_; intro v1 w1 ho1 hbl1 hg1 hat1; have hsh := ho1.bytes_slice; obtain ⟨A9, c9, rfl, hc9, _⟩ := hsh; clear hg1 hat1; have hb1 := hbl1 _ (((Below.refl _ (wc.alloc (.cells #[.int .u8 ((b[i].toNat : Nat) : Int), .slice none 0 0, .slice none 0 0] 33))).alloc (by simp) _)); have hy3 := (hb1.block wc.heap.size (by omega)).trans (new_block _ _); have hy8 := (hb1.block w.heap.size (by omega)).trans ((alloc_old _ _ _ hszw).trans HX.out); have ns0 := blk_cell hy3 0; have ns1 := blk_cell hy3 1; have ns2 := blk_cell hy3 2; have nz0 := blk_frozen hy3 0; have nz1 := blk_frozen hy3 1; have nz2 := blk_frozen hy3 2; simp only [List.getElem?_toArray, List.getElem?_cons_zero, List.getElem?_cons_succ] at ns0 ns1 ns2; have rs0 := blk_cell hy8 0; have rs1 := blk_cell hy8 1; have rs2 := blk_cell hy8 2; have rs3 := blk_cell hy8 3; have rs4 := blk_cell hy8 4; have rs5 := blk_cell hy8 5; have rz0 := blk_frozen hy8 0; have rz1 := blk_frozen hy8 1; have rz2 := blk_frozen hy8 2; have rz3 := blk_frozen hy8 3; have rz4 := blk_frozen hy8 4; have rz5 := blk_frozen hy8 5; simp only [List.getElem?_toArray, List.getElem?_cons_zero, List.getElem?_cons_succ] at rs0 rs1 rs2 rs3 rs4 rs5; have HY3 := Lib.hid hy3; have HY8 := Lib.hid hy8; have HO1 := Lib.hid ho1; have HB1 := Lib.hid hb1; clear ho1 hbl1 hb1 hy3 hy8))

                  refine bodyPost_ret (read_results rfl (blk_set6 (blk_set_far HY8.out (by first | omega | (simp; omega)) _) _ _ _ _ _ _) rfl) rfl ⟨_, rfl, ?_, ?_⟩
                  · rw [HV4.out, HCL.out]
                    refine ⟨A9, c9, none, 0, by simp [Tre.tag, Tre.bs, Tre.kids], hc9, Nat.le_refl _, ?_, .nil _ _ _⟩
                    have hrp := HO1.out.bytes_rep
                    refine hrp.move' fun k (hk : wc.heap.size + 1 ≤ k) hlt => ⟨by omega, ?_⟩
                    (repeat (refine (Below.heap_setCell _ _ _ _ (by first | omega | (simp; omega))).trans ?_)); with_reducible rfl
                  · (repeat (with_reducible refine bl_set ?_ (by first | exact Nat.le_refl _ | (simp; done) | (simp; omega)) _)); with_reducible exact (bl_alloc HB.out _).trans (HB1.out.mono (by omega))
                · have hcb : ((((b[i].toNat : Nat) : Int) / 32 % 2) == 0) = false := by
                    unfold comp at hcm
                    simp at hcm ⊢
                    omega
                  have HV4 := Lib.hid (HV3.out.trans (if_neg (by rw [hcm]; simp)))
                  clear HV2 HV3
                  generalize hst : pread (d + 1) b i e = R at *
                  have HRR := Lib.hid hst
                  clear hst
                  go_wp2
                  go_loopw [10] (fun v10 wr => ∃ (x fuel : Nat) (acc : List Tre) (AK : Option Addr) (nK cK : Nat), v10 = .int .i64 (x : Int) ∧ x ≤ nx + l ∧ nx + l - x < fuel ∧ acc.length ≤ x
                    ∧ R = ploop (fun y => pread d b y (nx + l)) b[i] (nx + l) fuel x acc ∧ Below w.heap.size w wr
                    ∧ wr.heap[w.heap.size]? = some (.cells #[.int .u8 0, .slice none 0 0, .slice none 0 0, .int .i64 0, .int .i64 0, .int .i64 0] 35 (0, 0))
                    ∧ wr.heap[wc.heap.size]? = some (.cells #[.int .u8 ((b[i].toNat : Nat) : Int), .slice none 0 0, .slice AK nK cK] 33 (0, 0))
                    ∧ Own (fun k => wc.heap.size < k) wr (wc.heap.size + 1) 33 (.slice AK nK cK) 3 (Tre.cellsL acc)) (fun v10 _ => nx + l - (intOf v10).toNat)
                  case atStart => exact ⟨nx, l + 1, [], none, 0, 0, rfl, by omega, by omega, by simp, HV4.out, bl_alloc HB.out _, (alloc_old _ _ _ hszw).trans HX.out, new_block _ _, Own.nil _ _ _ _ _⟩
                  case round =>
                    obtain ⟨x, fuel, acc, AK, nK, cK, rfl, hx1, hx2, hx3, hR9, hbr, hr8, hr3, hown⟩ := hrel
                    clear HV4 s0 s1 s2 s3 s4 s5 z0 z1 z2 z3 z4 z5 d0 qd0'
                    generalize hst : nx + l = st at *
                    have hstb : st ≤ b.length := by omega
                    have hst1 : (st : Int) ≤ (nx : Int) + (l : Int) := by omega
                    have hst2 : (nx : Int) + (l : Int) ≤ (st : Int) := by omega
                    have HST := Lib.hid hst
                    clear hst
                    have hq8 := blk_lt hr8
                    have hq3 := blk_lt hr3
                    have HBR := Lib.hid hbr
                    have HOWN := Lib.hid hown
                    have HR8 := Lib.hid hr8
                    have HR3 := Lib.hid hr3
                    have HR9 := Lib.hid hR9
                    have r8s0 := blk_cell hr8 0
                    have r8s1 := blk_cell hr8 1
                    have r8s2 := blk_cell hr8 2
                    have r8s3 := blk_cell hr8 3
                    have r8s4 := blk_cell hr8 4
                    have r8s5 := blk_cell hr8 5
                    have r8z0 := blk_frozen hr8 0
                    have r8z1 := blk_frozen hr8 1
                    have r8z2 := blk_frozen hr8 2
                    have r8z3 := blk_frozen hr8 3
                    have r8z4 := blk_frozen hr8 4
                    have r8z5 := blk_frozen hr8 5
                    simp only [List.getElem?_toArray, List.getElem?_cons_zero, List.getElem?_cons_succ] at r8s0 r8s1 r8s2 r8s3 r8s4 r8s5
                    have r3s0 := blk_cell hr3 0
                    have r3s1 := blk_cell hr3 1
                    have r3s2 := blk_cell hr3 2
                    have r3z0 := blk_frozen hr3 0
                    have r3z1 := blk_frozen hr3 1
                    have r3z2 := blk_frozen hr3 2
                    simp only [List.getElem?_toArray, List.getElem?_cons_zero, List.getElem?_cons_succ] at r3s0 r3s1 r3s2
                    clear hbr hown hr8 hr3 hR9
                    by_cases hlt9 : x < st
                    · obtain ⟨fl, rfl⟩ : ∃ fl, fuel = fl + 1 := ⟨fuel - 1, by omega⟩
                      by_cases hcd : (pread d b x st).code = 0
                      · obtain ⟨_, _, _, p4, p5, _⟩ := pread_ok d b x st hstb hcd
                        have HR10 := Lib.hid (show R = ploop (fun y => pread d b y st) b[i] st fl (pread d b x st).next (acc ++ [(pread d b x st).node]) by rw [HR9.out, ploop, if_pos hlt9, if_neg (by rw [hcd]; simp)])
                        have hih := ih S (some ad) c b x st ((nx : Int) + (l : Int)) (ab + 1) wr (by omega) (by have := HAB.out; omega) (HR.out.old HBR.out) hstb hx1 hb (by omega)
                        generalize pread d b x st = pr at *
                        have hcd1 : (((pr.code : Nat) : Int) != 0) = false := by simp [hcd]
                        have HIH := Lib.hid hih
                        have HCD := Lib.hid hcd
                        clear hih hcd
                        go_wp2_with (first | (go_at_call 25; go_must (refine HIH.out.mono ?_; rintro ev w1 ⟨v, rfl, ⟨A1, k1, A2, k2, rfl, m1, m2, g1, g2⟩, hb1⟩; have hq81 : w.heap.size < w1.heap.size := Nat.lt_of_lt_of_le hq8 hb1.size; have hq31 : wc.heap.size < w1.heap.size := Nat.lt_of_lt_of_le hq3 hb1.size; have hy8 := (hb1.block _ hq8).trans HR8.out; have hy3 := (hb1.block _ hq3).trans HR3.out; clear r8s0 r8s1 r8s2 r8s3 r8s4 r8s5 r8z0 r8z1 r8z2 r8z3 r8z4 r8z5 r3s0 r3s1 r3s2 r3z0 r3z1 r3z2; have y3s0 := blk_cell hy3 0; have y3s1 := blk_cell hy3 1; have y3s2 := blk_cell hy3 2; have y3z0 := blk_frozen hy3 0; have y3z1 := blk_frozen hy3 1; have y3z2 := blk_frozen hy3 2; simp only [List.getElem?_toArray, List.getElem?_cons_zero, List.getElem?_cons_succ] at y3s0 y3s1 y3s2; have HY8 := Lib.hid hy8; have HY3 := Lib.hid hy3; have HB1 := Lib.hid hb1; have G1 := Lib.hid g1; have G2 := Lib.hid g2; clear hy8 hy3 hb1 g1 g2)) | (at_builtin; go_must (refine wp_append_one' (S := fun k => wc.heap.size < k) (B := wc.heap.size + 1) rfl _ _ rfl Tryd.underlying31 info33 rfl (Nat.succ_pos _) (Nat.succ_pos _) (.slice AK nK cK) (Tre.cellsL acc) pr.node.cells [.int .u8 ((pr.node.tag.toNat : Nat) : Int), .slice A1 pr.node.bs.length k1, .slice A2 pr.node.kids.length k2] rfl (w1.heap.size + 1) ?hgg rfl (HOWN.out.below (bl_then HB1.out (bl_alloc (bl_refl _) _))) ?hBB rfl ?h11 (Tre.cells_length _) ?hreps ?hlen ?_; (case hgg => simp); (case hBB => simp; omega); (case h11 => simp [Value.oneCell']); (case hlen => intro n9 hn9; rw [Tre.cellsL_length] at hn9; omega); (case hreps => exact elem_reps (HOWN.out.lt) G1.out G2.out (bl_alloc (bl_refl _) _) (fun k hk => Nat.lt_of_lt_of_le hq3 hk)); intro v9 w2 ho9 hbl9 hg9 hat9; obtain ⟨A9, n9, c9, rfl, _⟩ := ho9.len; have hbl8 := hbl9 _ (Below.refl (wc.heap.size + 1) _); have hz3 := (hbl8.block wc.heap.size (by omega)).trans ((alloc_old _ _ _ hq31).trans HY3.out); have hz8 := (hbl8.block w.heap.size (by omega)).trans ((alloc_old _ _ _ hq81).trans HY8.out); clear y3s0 y3s1 y3s2 y3z0 y3z1 y3z2; have z3s0 := blk_cell hz3 0; have z3s1 := blk_cell hz3 1; have z3s2 := blk_cell hz3 2; have z3z0 := blk_frozen hz3 0; have z3z1 := blk_frozen hz3 1; have z3z2 := blk_frozen hz3 2; simp only [List.getElem?_toArray, List.getElem?_cons_zero, List.getElem?_cons_succ] at z3s0 z3s1 z3s2; have hz15 := (hg9.block w1.heap.size (by simp) (by intro h9; have := (HOWN.out.lt _ h9.symm).2; have := HB1.out.size; omega)).trans (new_block w1 _); have qs0 := blk_cell hz15 0; have qs1 := blk_cell hz15 1; have qs2 := blk_cell hz15 2; have qs3 := blk_cell hz15 3; have qs4 := blk_cell hz15 4; have qs5 := blk_cell hz15 5; have qz0 := blk_frozen hz15 0; have qz1 := blk_frozen hz15 1; have qz2 := blk_frozen hz15 2; have qz3 := blk_frozen hz15 3; have qz4 := blk_frozen hz15 4; have qz5 := blk_frozen hz15 5; simp only [List.getElem?_toArray, List.getElem?_cons_zero, List.getElem?_cons_succ] at qs0 qs1 qs2 qs3 qs4 qs5; have HZ3 := Lib.hid hz3; have HZ8 := Lib.hid hz8; have HBL := Lib.hid (hbl9 (w1.alloc (.cells #[.int .u8 ((pr.node.tag.toNat : Nat) : Int), .slice A1 pr.node.bs.length k1, .slice A2 pr.node.kids.length k2, .int .i64 (pr.next : Int), .int .i64 (pr.code : Int), .int .i64 0] 35)) (Below.refl _ _)); have HO9 := Lib.hid ho9; clear ho9 hbl9 hg9 hat9 hbl8 hz3 hz8 hz15)))
                        go_roundw
                        case rel =>
                          have hst := HST.out
                          have hf9 : st - x < fl + 1 := by omega
                          refine ⟨pr.next, fl, acc ++ [pr.node], A9, n9, c9, rfl, by omega, by omega, by simp; omega, by first | exact HR10.out | (rw [hst]; exact HR10.out), bl_set ((bl_alloc (bl_then HBR.out HB1.out) _).trans (HBL.out.mono (by omega))) (by simp; omega) _, blk_set_far HZ8.out (by simp; omega) _, blk_set HZ3.out 2 _, ?_⟩
                          have ho := HO9.out
                          rw [show Tre.cellsL acc ++ pr.node.cells = Tre.cellsL (acc ++ [pr.node]) by rw [Tre.cellsL_append]; simp [Tre.cellsL]] at ho
                          exact ho.move (fun k hk => by have := (ho.lt k hk).1; exact Below.heap_setCell _ _ _ _ (by simp; omega)) (fun k hk _ _ => ⟨hk, Below.heap_setCell _ _ _ _ (by simp; exact Nat.ne_of_gt hk)⟩)
                        case measure => simp [intOf]; omega
                      · have HR10 := Lib.hid (show R = pread d b x st by rw [HR9.out, ploop, if_pos hlt9, if_pos hcd]; exact (pread_err d b x st hcd).symm)
                        have hih := ih S (some ad) c b x st ((nx : Int) + (l : Int)) (ab + 1) wr (by omega) (by have := HAB.out; omega) (HR.out.old HBR.out) hstb hx1 hb (by omega)
                        generalize pread d b x st = pr at *
                        have hcd1 : (((pr.code : Nat) : Int) != 0) = true := by simp; omega
                        have HIH := Lib.hid hih
                        clear hih hcd
                        go_wp2_with (go_at_call 25; go_must (refine HIH.out.mono ?_; rintro ev w1 ⟨v, rfl, ⟨A1, k1, A2, k2, rfl, m1, m2, g1, g2⟩, hb1⟩; have hq81 : w.heap.size < w1.heap.size := Nat.lt_of_lt_of_le hq8 hb1.size; have hy8 := (hb1.block _ hq8).trans HR8.out; clear r8s0 r8s1 r8s2 r8s3 r8s4 r8s5 r8z0 r8z1 r8z2 r8z3 r8z4 r8z5 r3s0 r3s1 r3s2 r3z0 r3z1 r3z2; have y8s0 := blk_cell hy8 0; have y8s1 := blk_cell hy8 1; have y8s2 := blk_cell hy8 2; have y8s3 := blk_cell hy8 3; have y8s4 := blk_cell hy8 4; have y8s5 := blk_cell hy8 5; have y8z0 := blk_frozen hy8 0; have y8z1 := blk_frozen hy8 1; have y8z2 := blk_frozen hy8 2; have y8z3 := blk_frozen hy8 3; have y8z4 := blk_frozen hy8 4; have y8z5 := blk_frozen hy8 5; simp only [List.getElem?_toArray, List.getElem?_cons_zero, List.getElem?_cons_succ] at y8s0 y8s1 y8s2 y8s3 y8s4 y8s5; have HY8 := Lib.hid hy8; have HB1 := Lib.hid hb1; have G1 := Lib.hid g1; have G2 := Lib.hid g2; clear hy8 hb1 g1 g2))
                        refine bodyPost_ret (read_results rfl (alloc_keep (blk_set6 HY8.out _ _ _ _ _ _) _) rfl) rfl ⟨_, rfl, ?_, ?_⟩
                        · rw [HRR.out, HR10.out]
                          have mv : ∀ {u : Value} {q : Cl} {W : World}, (∀ k, wr.heap.size ≤ k → k < w1.heap.size → W.heap[k]? = w1.heap[k]?) → Rep (fun k => wr.heap.size ≤ k) w1 u q → Rep (fun k => w.heap.size ≤ k) W u q := fun h1 h2 => h2.move' fun k (hk : wr.heap.size ≤ k) hl => ⟨by show w.heap.size ≤ k; omega, h1 k hk hl⟩
                          refine ⟨A1, k1, A2, k2, rfl, m1, m2, mv (fun k hk hl => ?_) G1.out, mv (fun k hk hl => ?_) G2.out⟩ <;> (refine (alloc_old _ _ _ (by simp; exact hl)).trans ?_; (repeat (refine (Below.heap_setCell _ _ _ _ (by simp; omega)).trans ?_)); with_reducible rfl)
                        · refine bl_alloc ?_ _
                          (repeat (with_reducible refine bl_set ?_ (by first | exact Nat.le_refl _ | (simp; done) | (simp; omega)) _)); exact bl_then HBR.out HB1.out
                    · obtain ⟨fl, rfl⟩ : ∃ fl, fuel = fl + 1 := ⟨fuel - 1, by omega⟩
                      have HR10 := Lib.hid (show R = ⟨⟨b[i], [], acc⟩, x, 0, 0⟩ by rw [HR9.out, ploop, if_neg hlt9])
                      obtain ⟨_, _, _, he9, hl9, hc9, _⟩ := HOWN.out.len
                      cases he9
                      have hn9 : nK = acc.length := by rw [Tre.cellsL_length] at hl9; omega
                      subst hn9
                      go_wp2
                      refine bodyPost_ret (read_results rfl (blk_set6 HR8.out _ _ _ _ _ _) rfl) rfl ⟨_, rfl, ?_, ?_⟩
                      · rw [HRR.out, HR10.out]
                        refine ⟨none, 0, AK, cK, rfl, Nat.le_refl _, hc9, .nil _ _ _, ?_⟩
                        have hrp := HOWN.out.rep (S' := fun k => wc.heap.size < k) (by decide) (fun k hk _ => hk) (fun k hk _ => hk)
                        refine hrp.move' fun k (hk : wc.heap.size < k) hl => ⟨by show w.heap.size ≤ k; omega, ?_⟩
                        (repeat (refine (Below.heap_setCell _ _ _ _ (by simp; omega)).trans ?_)); with_reducible rfl
                      · (repeat (with_reducible refine bl_set ?_ (by first | exact Nat.le_refl _ | (simp; done) | (simp; omega)) _)); exact HBR.out

theorem read_calls (d : Nat) : ReadSaid d := by
  induction d with
  | zero => exact read_zero
  | succ d ih => exact read_succ d ih
end Go.Proofs.YtfgeldeaahdddaaDoor
