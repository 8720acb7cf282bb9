/- The walk of the law BloomMakes. -/
import Derived.Test.YtgnicgcdhldmmaaDoorBlmKeeps
import Derived.Test.YtgnicgcdhldmmaaDoorBlmMays
namespace Go.Proofs.YtgnicgcdhldmmaaDoor.Blm
set_option linter.unusedVariables false
set_option linter.unusedSimpArgs false
open Go.Proofs.YtgnicgcdhldmmaaDoor.Crc Go.Proofs.YtgnicgcdhldmmaaDoor.Kit Go.RowKit Go.Proofs.YtgnicgcdhldmmaaDoorW.PrintWords Go.Proofs.YtgnicgcdhldmmaaDoorW.PrintLast Go.Proofs.YtgnicgcdhldmmaaDoorW.PrintMore
/-- The law's own filter in the making, and the places of the key at hand. -/
structure Wa (w4 : World) (g m : Nat) (xs : List Int) (B2 : Nat) (vb : Value) (ys : List Int) (W : World) : Prop where
  bel : Below w4.heap.size w4 W
  row : Gr .u8 5 W w4.heap.size (.slice (some ⟨g, 0, none⟩) m m) xs
  bits : Gr .i64 3 W B2 vb ys
  lt : g < B2
theorem Wa.below {w4 W W' : World} {g m B2 : Nat} {xs ys : List Int} {vb : Value} (h : Wa w4 g m xs B2 vb ys W) (hb : Below W.heap.size W W') : Wa w4 g m xs B2 vb ys W' :=
  ⟨below_then h.bel h.bel.size hb, gr_below h.row hb, gr_below h.bits hb, h.lt⟩
theorem Wa.set {w4 W : World} {g m B2 : Nat} {xs ys : List Int} {vb : Value} (h : Wa w4 g m xs B2 vb ys W) (k : Nat) (x : Int) : Wa w4 g m (xs.set k x) B2 vb ys (W.setCell ⟨g, k, none⟩ (.int .u8 x)) :=
  ⟨h.bel.setCell (p := ⟨g, k, none⟩) (gr_base h.row g rfl) _, gr_set h.row k x, gr_move h.bits fun j hj => Below.heap_setCell _ _ _ _ (by have := gr_base h.bits j hj; have := h.lt; show j ≠ g; omega), h.lt⟩
theorem or_add : ∀ x, x < 256 → ∀ k, k < 8 → (x / 2 ^ k % 2 = 0 → x ||| 2 ^ k = x + 2 ^ k) ∧ (x / 2 ^ k % 2 ≠ 0 → x ||| 2 ^ k = x) := by decide +kernel
theorem setb_same {xs : List Int} {p : Nat} (h : orb (xs.getD (p / 8) 0) (p % 8) = xs.getD (p / 8) 0) : setb xs p = xs := by
  unfold setb
  rw [h]
  by_cases hl : p / 8 < xs.length
  · rw [List.getD_eq_getElem?_getD, List.getElem?_eq_getElem hl]
    exact List.set_getElem_self hl
  · exact List.set_eq_of_length_le (by omega)
theorem reg_4_16 : RegOk (opsOf Tryd.f4 16) [[], [], [1], [0, 1, 2], [0, 1, 2, 3], [], [5], [5, 6], [0, 1, 2, 3, 4, 5, 6, 7], [0, 1, 2, 3, 4, 5, 6, 7, 8], [0, 1, 2, 3, 4, 5, 6, 7, 8, 9]] [] [some 46, some 47, some 48, some 49, some 50, some 51, some 52, some 53, some 54, some 55, some 56] := regOk (by kernel_rfl)
theorem reg_4_17 : RegOk (opsOf Tryd.f4 17) [[], [], [1], [0, 1, 2], [0, 1, 2, 3], [], [5], [5, 6], [5, 6, 7], [0, 1, 2, 3, 4, 5, 6, 7, 8], [0, 1, 2, 3, 4, 5, 6, 7, 8, 9], [0, 1, 2, 3, 4, 5, 6, 7, 8, 9, 10]] [11] [some 57, some 58, some 59, some 60, some 61, some 62, some 63, some 64, some 65, some 66, some 67, none] := regOk (by kernel_rfl)
theorem reg_4_20 : RegOk (opsOf Tryd.f4 20) [[], [0], [0, 1], [0, 1, 2], [0, 1, 2, 3], [0, 1, 2, 3, 4], [0, 1, 2], [0, 1, 2, 6], [0, 1, 2, 6, 7], [0, 1, 2, 3, 4, 5, 6, 7, 8], [0, 1, 2, 3, 4, 5, 6, 7, 8, 9]] [] [some 70, some 71, some 72, some 73, some 74, some 75, some 76, some 77, some 78, some 79, some 80] := regOk (by kernel_rfl)
theorem reg_4_23 : RegOk (opsOf Tryd.f4 23) [[], [0], [0, 1], [0, 1, 2], [0, 1, 2, 3], [0, 1, 2, 3, 4], [0, 1, 2], [0, 1, 2, 3, 4, 6], [0, 1, 2, 3, 4, 6, 7], [0, 1, 2, 3, 4, 5, 6, 7, 8], [0, 1, 2, 3, 4, 5, 6, 7, 8, 9], [0, 1, 2, 3, 4, 5, 6, 7, 8, 9, 10]] [] [some 87, some 88, some 89, some 90, some 91, some 92, some 93, some 94, some 95, some 96, some 97, some 2] := regOk (by kernel_rfl)
set_option maxRecDepth 20000 in
set_option maxHeartbeats 3200000 in
theorem makes_any (A : Option Addr) (n c : Nat) (names : List ByteArray) (w : World) (hT : Halves w) (hr : RdsS w A n names) (hnc : n ≤ c) (hok : ∀ s ∈ names, s.size ≤ maxLen) :
    Calls Tryd.prog 4 #[.slice A n c] w fun e w' => e = .returned (.bool true) ∧ Below w.heap.size w w' := by
  have hl := rds_len hr
  have hnm := rds_max hr
  have HH := Lib.hid (head_any w hT)
  go_enter Tryd.func4, Tryd.ntmps4
  go_wp2_with fail
  refine HH.out.mono ?_
  rintro e w1 ⟨rfl, hB1⟩
  have HG := Lib.hid (big_any A n c names w1 (rds_below hr hB1) hl hnm)
  have HB1 := Lib.hid hB1
  clear hB1
  go_wp2_with fail
  refine HG.out.mono ?_
  rintro e w2 ⟨b, rfl, rfl, hsm⟩
  cases b with
  | true =>
    go_wp2_with fail
    go_ret
    exact ⟨rfl, HB1.out⟩
  | false =>
    obtain ⟨hn60, hs200⟩ := hsm rfl
    have HM := Lib.hid (make_any A n c names w1 (hT.below HB1.out) (rds_below hr HB1.out) hl hn60 (fun s h => by have := hs200 s h; omega))
    go_wp2_with fail
    refine HM.out.mono ?_
    rintro e w3 ⟨g3, rfl, hO3, hB3⟩
    have hm8 : 8 ≤ nB n := by unfold nB; omega
    have hm1 : nB n ≤ 100 := by unfold nB; omega
    have hmx : nB n = 8 ∨ (8 * nB n < 10 * n + 8) := by unfold nB; omega
    have hmy : 10 * n ≤ 8 * nB n := by unfold nB; omega
    have hok3 := mkF_ok (nB n) names
    generalize hmd : nB n = m at hO3 hm8 hm1 hok3 hmx hmy ⊢
    have HB3 := Lib.hid (below_then HB1.out HB1.out.size hB3)
    have HX := Lib.hid (bx_alloc HB3.out hO3)
    have HR := Lib.hid hr
    have HT := Lib.hid hT
    have HS2 := Lib.hid hs200
    clear hO3 hB3 hr hs200 hsm HG HM HH hT hok hmd
    go_upto_region 6 with fail
    generalize hp3 : w3.heap.size = p3 at *
    generalize hW4 : w3.alloc (.cells #[.slice (some ⟨g3, 0, none⟩) m m] 27) = w4 at *
    go_wp2_with fail
    go_loop [5] (fun i => ∃ j : Nat, 8 ≤ j ∧ j ≤ m ∧ i = .int .i64 j) (fun i => m - (intOf i).toNat)
    case atStart => exact ⟨8, by omega, hm8, rfl⟩
    case round =>
      obtain ⟨j, hj8, hjm, rfl⟩ := hrel
      by_cases hlt : 8 * j < 10 * n
      · go_wp2_with fail
        go_round
        case rel => exact ⟨j + 1, by omega, by omega, by go_num⟩
        case measure => simp [intOf]; omega
      · obtain rfl : j = m := by omega
        have hmk := print_make 25 5 .u8 1 Tryd.underlying25 info5 (by decide) j (by omega)
        have HG5 : Hid (Gr .u8 5 (w4.alloc (.cells (madeCells #[.int .u8 0] j) 5)) w4.heap.size (.slice (some ⟨w4.heap.size, 0, none⟩) j j) (mkF j (names.take 0))) := Lib.hid (gr_made .u8 5 j (Nat.le_refl _) (by omega))
        have HB5 := Lib.hid (below_alloc (Below.refl w4.heap.size w4) (.cells (madeCells #[.int .u8 0] j) 5))
        go_wp2_with fail
        generalize w4.alloc (.cells (madeCells #[.int .u8 0] j) 5) = w5 at *
        go_loopw [34] (fun i wr => ∃ k : Nat, k ≤ n ∧ i = .int .i64 k ∧ Hid (Gr .u8 5 wr w4.heap.size (.slice (some ⟨w4.heap.size, 0, none⟩) j j) (mkF j (names.take k))) ∧ Hid (Below w4.heap.size w4 wr)) (fun i _ => n - (intOf i).toNat)
        case atStart => exact ⟨0, by omega, rfl, HG5, HB5⟩
        case round =>
          obtain ⟨k, hk, rfl, HG, HB⟩ := hrel
          by_cases hlt2 : k < n
          · have hbw : Below w.heap.size w wr := below_then HX.out.bel HX.out.bel.size HB.out
            obtain ⟨ad, rfl, hc⟩ := rds_at default (rds_below HR.out hbw) k hlt2
            have hmem : names.getD k default ∈ names := by
              rw [List.getD_eq_getElem?_getD, List.getElem?_eq_getElem (by omega)]
              exact List.getElem_mem _
            have hss := HS2.out _ hmem
            have htk : names.take (k + 1) = names.take k ++ [names.getD k default] := by
              rw [List.take_succ_eq_append_getElem (by omega), List.getD_eq_getElem?_getD, List.getElem?_eq_getElem (by omega)]
              rfl
            generalize names.getD k default = s at hc hss htk hmem
            have hok := mkF_ok j (names.take k)
            have hnext : mkF j (names.take (k + 1)) = lay (numsOf s) (8 * j) (mkF j (names.take k)) 6 := by rw [htk, mkF_snoc]
            generalize mkF j (names.take k) = X0 at hok hnext HG
            have HNX := Lib.hid hnext
            have HBI := Lib.hid (refbits_any s (by omega) j (by omega) wr)
            clear hmem htk hnext hlt
            go_wp2_with fail
            refine HBI.out.mono ?_
            rintro e w6 ⟨v5, rfl, hO5, hB5⟩
            obtain ⟨A5, n5, c5, rfl, h5c, HL5, h5m, hr5⟩ := gr_open hO5
            obtain rfl : n5 = 6 := by rw [← HL5.out, plcs_length]
            have HW6 : Hid (Wa w4 w4.heap.size j X0 wr.heap.size (.slice A5 6 c5) (plcs (numsOf s) (8 * j) 6) w6) := Lib.hid ⟨below_then HB.out HB.out.size hB5, gr_below HG.out hB5, hO5, gr_lt HG.out _ rfl⟩
            have HHT := Lib.hid (gr_lt HG.out _ rfl)
            clear hO5 hB5 hr5 HG HBI hc
            obtain ⟨B2, hB2⟩ : ∃ B2, B2 = wr.heap.size := ⟨_, rfl⟩
            rw [← hB2] at HW6
            go_wp2_with fail
            go_loopw [42] (fun i wr2 => ∃ q : Nat, q ≤ 6 ∧ i = .int .i64 q ∧ Hid (Wa w4 w4.heap.size j (lay (numsOf s) (8 * j) X0 q) B2 (.slice A5 6 c5) (plcs (numsOf s) (8 * j) 6) wr2)) (fun i _ => 6 - (intOf i).toNat)
            case atStart => exact ⟨0, by omega, rfl, HW6⟩
            case round =>
              obtain ⟨q, hq6, rfl, HW⟩ := hrel
              by_cases hlt3 : q < 6
              · obtain ⟨ad5, rfl, hc5⟩ := rds_at 0 (gr_rds HW.out.bits) q hlt3
                rw [plcs_getD _ _ _ _ hlt3] at hc5
                have hpos := plc_lt (numsOf s) (8 * j) q (by omega)
                have hsx : lay (numsOf s) (8 * j) X0 (q + 1) = setb (lay (numsOf s) (8 * j) X0 q) (plc (numsOf s) (8 * j) q) := rfl
                have hxb := lay_byte (numsOf s) (8 * j) hok.2 q
                generalize lay (numsOf s) (8 * j) X0 q = X1 at HW hsx hxb
                generalize plc (numsOf s) (8 * j) q = pos at hc5 hpos hsx
                have hq := tdiv8 pos (by omega)
                have hrm := tmod8 pos
                have hk8 : pos % 8 < 8 := Nat.mod_lt _ (by omega)
                have hltq : pos / 8 < j := by omega
                have hby := byte_getD hxb (pos / 8)
                have hset : X1.set (pos / 8) (orb (X1.getD (pos / 8) 0) (pos % 8)) = setb X1 pos := rfl
                have hsame := @setb_same X1 pos
                have hsh0 := shl8 (pos % 8) hk8
                obtain ⟨x, hx⟩ := Int.eq_ofNat_of_zero_le hby.1
                have hx2 : x < 256 := by omega
                have hoa := or_add x hx2 (pos % 8) hk8
                have horb : orb (X1.getD (pos / 8) 0) (pos % 8) = ((x ||| 2 ^ (pos % 8) : Nat) : Int) := by rw [hx]; rfl
                have holt := (orb_lt hby.2 hk8).2
                rw [horb] at hset hsame holt
                rw [hx] at hsame
                have hsh := shr8 x (pos % 8) hk8
                have hxk : x / 2 ^ (pos % 8) < 256 := Nat.lt_of_le_of_lt (Nat.div_le_self _ _) (by omega)
                have hm2 : Int.tmod ((x / 2 ^ (pos % 8) : Nat) : Int) 2 = ((x / 2 ^ (pos % 8) % 2 : Nat) : Int) := rem_nat _ 2
                have hcu : IntKind.u64.wrap ((pos % 8 : Nat) : Int) = ((pos % 8 : Nat) : Int) := u64_nat _ (by omega)
                have hrow : ∀ W B ys vb, Wa w4 w4.heap.size j X1 B vb ys W → W.cell? ⟨w4.heap.size, pos / 8, none⟩ = some (.int .u8 (x : Int)) ∧ W.frozen? ⟨w4.heap.size, pos / 8, none⟩ = false := fun W B ys vb hW => by
                  have := gr_cell 0 hW.row (pos / 8) hltq
                  rw [hx] at this
                  exact this
                have hz : ((((x / 2 ^ (pos % 8) % 2 : Nat) : Int) == 0) : Bool) = decide (x / 2 ^ (pos % 8) % 2 = 0) := by
                  by_cases h : x / 2 ^ (pos % 8) % 2 = 0
                  · rw [h]; rfl
                  · rw [decide_eq_false h]
                    simp only [beq_eq_false_iff_ne]
                    omega
                generalize x / 2 ^ (pos % 8) % 2 = bt at hm2 hoa hz
                generalize x / 2 ^ (pos % 8) = sh at hsh hm2
                generalize x ||| 2 ^ (pos % 8) = nb at hoa hset hsame holt
                generalize 2 ^ (pos % 8) = tw at hoa hsh0
                generalize pos / 8 = qq at *
                generalize pos % 8 = rr at *
                have HQ := Lib.hid hq
                have HRM := Lib.hid hrm
                have HSH := Lib.hid hsh
                have HM2 := Lib.hid hm2
                have HCU := Lib.hid hcu
                have HROW := Lib.hid hrow
                have HZ := Lib.hid hz
                have HSX := Lib.hid hsx
                have HSAME := Lib.hid hsame
                have HSET := Lib.hid hset
                have HOA := Lib.hid hoa
                have HSH0 := Lib.hid hsh0
                clear hq hrm hsh hm2 hcu hrow hz hsx hsame hset hoa hsh0 hx horb hby
                go_upto_region 16 with fail
                refine plain_ _ (fun _ => True) reg_4_16 rfl inv0 (fun _ _ _ _ => trivial) (Below.refl _ _) trivial ?_
                refine w_move (.inl rfl) (fun vs w hK => ⟨wants_none rfl, rho_out rfl rfl⟩) ?_
                refine w_move (.inl rfl) (fun vs w hK => ⟨wants_none rfl, rho_out rfl rfl⟩) ?_
                refine w_val [(47, _)] (_) (fun vs w hK => ⟨wants_none rfl, rho_in rfl (fv (hK 1 (memE rfl))), trivial⟩) rfl (fun wq hI => by exact op_quo rfl rfl rfl (by decide) HQ.out) ?_
                refine w_val [(46, _), (48, _)] (_) (fun vs w hK => ⟨wants_none rfl, rho_in rfl (fv (hK 0 (memE rfl))), rho_in rfl (fv (hK 2 (memE rfl))), trivial⟩) rfl (fun wq hI => by exact run_index_cell tb rfl rfl rfl rfl hltq) ?_
                refine w_val [(49, _)] (.int .u8 (x : Int)) (fun vs w hK => ⟨wants_none rfl, rho_in rfl (fv (hK 3 (memE rfl))), trivial⟩) rfl (fun wq hI => by exact run_load_cell rfl rfl rfl Tryd.underlying5 rfl (by rw [add_plain]; exact (HROW.out wq _ _ _ (HW.out.below hI)).1)) ?_
                refine w_move (.inl rfl) (fun vs w hK => ⟨wants_none rfl, rho_out rfl rfl⟩) ?_
                refine w_val [(51, _)] (_) (fun vs w hK => ⟨wants_none rfl, rho_in rfl (fv (hK 5 (memE rfl))), trivial⟩) rfl (fun wq hI => by exact op_rem rfl rfl rfl (by decide) HRM.out) ?_
                refine w_val [(52, _)] (_) (fun vs w hK => ⟨wants_none rfl, rho_in rfl (fv (hK 6 (memE rfl))), trivial⟩) rfl (fun wq hI => by exact op_conv_int rfl Tryd.underlying3 Tryd.underlying35 rfl HCU.out) ?_
                refine w_val [(50, _), (53, _)] (_) (fun vs w hK => ⟨wants_none rfl, rho_in rfl (fv (hK 4 (memE rfl))), rho_in rfl (fv (hK 7 (memE rfl))), trivial⟩) rfl (fun wq hI => by exact op_shr rfl rfl rfl (Int.natCast_nonneg _) HSH.out) ?_
                refine w_val [(54, _)] (_) (fun vs w hK => ⟨wants_none rfl, rho_in rfl (fv (hK 8 (memE rfl))), trivial⟩) rfl (fun wq hI => by exact op_rem rfl rfl rfl (by decide) HM2.out) ?_
                refine w_val [(55, _)] (_) (fun vs w hK => ⟨wants_none rfl, rho_in rfl (fv (hK 9 (memE rfl))), trivial⟩) rfl (fun wq hI => by exact run_int_eql rfl rfl rfl HZ.out) ?_
                refine w_end rfl rfl rfl (fun vs wq hI hF => ?_)
                simp only [List.reverse_cons, List.reverse_nil, List.nil_append, List.cons_append, finL_val, finL_of, finL_any, finL_app, finL_new, finL_gr, finL_row, finL_box, finL_nil, Act.put, List.setIfInBounds_toArray, List.set_cons_zero, List.set_cons_succ, Nat.reduceAdd]
                have HW7 := Lib.hid (HW.out.below hI)
                clear hI hF
                by_cases hz0 : bt = 0
                · have t56 : decide (bt = 0) = true := decide_eq_true hz0
                  have hnb : nb = x + tw := HOA.out.1 hz0
                  have hadd : IntKind.u8.wrap ((x : Int) + (tw : Int)) = (nb : Int) := by
                    have : (x : Int) + (tw : Int) = ((nb : Nat) : Int) := by omega
                    rw [this]
                    exact u8_nat nb (by omega)
                  have HADD := Lib.hid hadd
                  clear hadd hnb
                  go_upto_region 17 with fail
                  refine plain_ (fun _ => True) (Wa w4 w4.heap.size j X1 B2 (.slice (some ad5) 6 c5) (plcs (numsOf s) (8 * j) 6)) reg_4_17 rfl (fun _ _ _ _ => trivial) (fun _ _ h hb => h.below hb) trivial HW7.out ?_
                  refine w_move (.inl rfl) (fun vs w hK => ⟨wants_none rfl, rho_out rfl rfl⟩) ?_
                  refine w_move (.inl rfl) (fun vs w hK => ⟨wants_none rfl, rho_out rfl rfl⟩) ?_
                  refine w_val [(58, _)] (_) (fun vs w hK => ⟨wants_none rfl, rho_in rfl (fv (hK 1 (memE rfl))), trivial⟩) rfl (fun wq hI => by exact op_quo rfl rfl rfl (by decide) HQ.out) ?_
                  refine w_val [(57, _), (59, _)] (_) (fun vs w hK => ⟨wants_none rfl, rho_in rfl (fv (hK 0 (memE rfl))), rho_in rfl (fv (hK 2 (memE rfl))), trivial⟩) rfl (fun wq hI => by exact run_index_cell tb rfl rfl rfl rfl hltq) ?_
                  refine w_anyJ (FW.val (.int .u8 (x : Int))) (by decide) (fun vs wq hI hJ hK => ?_) ?_
                  · have hA := hJ (by decide)
                    exact ob_run [(60, _)] (wants_none rfl) ⟨rho_in rfl (fv (hK 3 (memE rfl))), trivial⟩ rfl (run_load_cell rfl rfl rfl Tryd.underlying5 rfl (by rw [add_plain]; exact (HROW.out wq _ _ _ hA).1)) ⟨Below.refl _ _, rfl⟩
                  refine w_move (.inl rfl) (fun vs w hK => ⟨wants_none rfl, rho_out rfl rfl⟩) ?_
                  refine w_val [(62, _)] (_) (fun vs w hK => ⟨wants_none rfl, rho_in rfl (fv (hK 5 (memE rfl))), trivial⟩) rfl (fun wq hI => by exact op_rem rfl rfl rfl (by decide) HRM.out) ?_
                  refine w_val [(63, _)] (_) (fun vs w hK => ⟨wants_none rfl, rho_in rfl (fv (hK 6 (memE rfl))), trivial⟩) rfl (fun wq hI => by exact op_conv_int rfl Tryd.underlying3 Tryd.underlying35 rfl HCU.out) ?_
                  refine w_val [(64, _)] (_) (fun vs w hK => ⟨wants_none rfl, rho_in rfl (fv (hK 7 (memE rfl))), trivial⟩) rfl (fun wq hI => by exact op_shl rfl rfl rfl (Int.natCast_nonneg _) HSH0.out) ?_
                  refine w_val [(61, _), (65, _)] (_) (fun vs w hK => ⟨wants_none rfl, rho_in rfl (fv (hK 4 (memE rfl))), rho_in rfl (fv (hK 8 (memE rfl))), trivial⟩) rfl (fun wq hI => by exact run_int_add rfl rfl rfl HADD.out) ?_
                  refine w_val [(57, _), (59, _)] (_) (fun vs w hK => ⟨wants_none rfl, rho_in rfl (fv (hK 0 (memE rfl))), rho_in rfl (fv (hK 2 (memE rfl))), trivial⟩) rfl (fun wq hI => by exact run_index_cell tb rfl rfl rfl rfl hltq) ?_
                  refine w_lin (FW.of (fun _ W => Wa w4 w4.heap.size j (setb X1 pos) B2 (.slice (some ad5) 6 c5) (plcs (numsOf s) (8 * j) 6) W) (fun _ _ _ h hb => h.below hb)) (by decide) (fun vs wq hI hJ hK => ?_) ?_
                  · have hA := hJ (by decide) (by decide)
                    have hc := HROW.out wq _ _ _ hA
                    have hT := hA.set qq (nb : Int)
                    rw [HSET.out] at hT
                    exact ob_store_cell [(67, _), (66, _)] (wants_none rfl) ⟨rho_in rfl (fv (hK 10 (memE rfl))), rho_in rfl (fv (hK 9 (memE rfl))), trivial⟩ rfl rfl (by simp only [lk, lkT]; rw [add_plain]; rfl) rfl rfl hc.1 hc.2 infoB ⟨trivial, hT⟩
                  refine w_end rfl rfl rfl (fun vs wq hI hF => ?_)
                  simp only [List.reverse_cons, List.reverse_nil, List.nil_append, List.cons_append, finL_val, finL_of, finL_any, finL_app, finL_new, finL_gr, finL_row, finL_box, finL_nil, Act.put, List.setIfInBounds_toArray, List.set_cons_zero, List.set_cons_succ, Nat.reduceAdd]
                  have hfin : Wa w4 w4.heap.size j (setb X1 pos) B2 (.slice (some ad5) 6 c5) (plcs (numsOf s) (8 * j) 6) wq := hF 11 (by decide) rfl
                  have HW8 := Lib.hid hfin
                  clear hfin hF hI
                  go_wp2_with fail
                  go_roundw
                  case rel => exact ⟨q + 1, by omega, by go_num, by rw [HSX.out]; exact HW8⟩
                  case measure => simp [intOf]; omega
                · have t56 : decide (bt = 0) = false := decide_eq_false hz0
                  have hnb := HOA.out.2 hz0
                  have hss2 := HSAME.out (by rw [hnb])
                  have HW8 : Hid (Wa w4 w4.heap.size j (setb X1 pos) B2 (.slice (some ad5) 6 c5) (plcs (numsOf s) (8 * j) 6) wq) := Lib.hid (by rw [hss2]; exact HW7.out)
                  clear hnb hss2
                  go_wp2_with fail
                  go_roundw
                  case rel => exact ⟨q + 1, by omega, by go_num, by rw [HSX.out]; exact HW8⟩
                  case measure => simp [intOf]; omega
              · obtain rfl : q = 6 := by omega
                have HG9 : Hid (Gr .u8 5 wr w4.heap.size (.slice (some ⟨w4.heap.size, 0, none⟩) j j) (mkF j (names.take (k + 1)))) := Lib.hid (by rw [HNX.out]; exact HW.out.row)
                have HB9 := Lib.hid HW.out.bel
                go_wp2_with fail
                go_roundw
                case rel => exact ⟨k + 1, by omega, by go_num, HG9, HB9⟩
                case measure => simp [intOf]; omega
          · obtain rfl : k = n := by omega
            rw [List.take_of_length_le (by omega)] at HG
            have HXr := Lib.hid (HX.out.below HB.out)
            obtain ⟨X, hX⟩ : ∃ X, X = mkF j names := ⟨_, rfl⟩
            rw [← hX] at HG HXr hok3
            have hst : strOfNums (6 :: X) = (⟨#[6]⟩ : ByteArray) ++ strOfNums X := by
              have h := str_append [6] X
              exact h
            have HST := Lib.hid hst
            have hbt : ∀ (p g : Nat) (wq : World), Bx w p g j X wq → Calls Tryd.prog 12 #[.agg #[.slice (some ⟨g, 0, none⟩) j j]] wq fun e w' => ∃ v, e = .returned v ∧ Below wq.heap.size wq w' ∧ (FW.row .u8 (6 :: X)).p v w' := fun p g wq h => (bytes_any (some ⟨g, 0, none⟩) j j X wq h.row (by omega)).mono fun e w' ⟨v, he, hO, hB⟩ => ⟨v, he, hB, isRow_gr hO⟩
            have HBT := Lib.hid hbt
            clear hst hbt hX
            go_upto_region 20 with fail
            have hsz : (strOfNums X).size = X.length := by simp [strOfNums, ByteArray.size]
            have HSZ := Lib.hid hsz
            have HXL := Lib.hid hok3.1
            clear hsz
            have hlen : ((⟨#[6]⟩ : ByteArray)).size = 1 := rfl
            refine draws_ _ (fun _ => True) (by kernel_rfl) reg_4_20 rfl inv0 (fun _ _ _ _ => trivial) (below_drew (Below.refl _ _)) trivial ?_
            refine w_move (.inl rfl) (fun vs w hK => ⟨wants_none rfl, rho_out rfl rfl⟩) ?_
            refine w_val [(70, _)] (.bool false) (fun vs w hK => ⟨wants_none rfl, rho_in rfl (fv (hK 0 (memE rfl))), trivial⟩) rfl (fun wq hI => by exact run_int_neq rfl rfl rfl rfl) ?_
            refine w_move (.inl rfl) (fun vs w hK => ⟨wants_none rfl, rho_in rfl (fv (hK 1 (memE rfl)))⟩) ?_
            refine w_val [(3, _)] (.agg #[.slice (some ⟨g3, 0, none⟩) j j]) (fun vs w hK => ⟨wants_g rfl (fv (hK 2 (memE rfl))), rho_out rfl rfl, trivial⟩) rfl (fun wq hI => by exact run_load_op rfl rfl (run_loadAt_mid wq _ 0 27 [.slice (some ⟨g3, 0, none⟩) j j] _ (range_block (HXr.out.below hI).box) Tryd.underlying27 rfl info27)) ?_
            refine w_callF (FW.row .u8 (6 :: X)) [(73, _)] _ (by decide) (fun vs w hK => ⟨wants_g rfl (fv (hK 2 (memE rfl))), rho_in rfl (fv (hK 3 (memE rfl))), trivial⟩) rfl rfl Tryd.func12 (by kernel_rfl) rfl (fun wq hI => HBT.out _ _ wq (HXr.out.below hI)) (margs rfl) ?_
            refine w_str (j := 4) (by decide) Tryd.underlying9 Tryd.underlying5 tb rfl rfl (fun vs w hK => wants_g rfl (fv (hK 2 (memE rfl)))) (fun vs w hK => hK 4 (memE rfl)) ?_
            refine w_move (.inl rfl) (fun vs w hK => ⟨wants_g rfl (fv (hK 2 (memE rfl))), rho_out rfl rfl⟩) ?_
            refine w_val [(76, _)] (.string (strOfNums X)) (fun vs w hK => ⟨wants_g rfl (fv (hK 2 (memE rfl))), rho_in rfl (fv (hK 6 (memE rfl))), trivial⟩) rfl (fun wq hI => by exact run_conv_op rfl rfl (conv_rds tb Tryd.underlying5 Tryd.underlying9 (gr_rds (gr_below HG.out hI)))) ?_
            refine w_val [(77, _)] (.string ((⟨#[6]⟩ : ByteArray) ++ strOfNums X)) (fun vs w hK => ⟨wants_g rfl (fv (hK 2 (memE rfl))), rho_in rfl (fv (hK 7 (memE rfl))), trivial⟩) rfl (fun wq hI => by exact run_cat_op rfl rfl rfl (by rw [hlen, HSZ.out, HXL.out]; omega)) ?_
            refine w_val [(75, _), (78, _)] (.bool false) (fun vs w hK => ⟨wants_g rfl (fv (hK 2 (memE rfl))), rho_in rfl (fv (hK 5 (memE rfl))), rho_in rfl (fv (hK 8 (memE rfl))), trivial⟩) rfl (fun wq hI => by exact run_neq_same rfl rfl rfl HST.out) ?_
            refine w_pick (b := false) rfl (fun vs w hK => ⟨wants_none rfl, (rho_in rfl (fv (hK 2 (memE rfl)))), (rho_in rfl (fv (hK 9 (memE rfl))))⟩) ?_
            refine w_end rfl rfl rfl (fun vs wq hI hF => ?_)
            simp only [List.reverse_cons, List.reverse_nil, List.nil_append, List.cons_append, finL_val, finL_of, finL_any, finL_app, finL_new, finL_gr, finL_row, finL_box, finL_nil, Act.put, List.setIfInBounds_toArray, List.set_cons_zero, List.set_cons_succ, Nat.reduceAdd]
            have HX7 := Lib.hid (HXr.out.below hI)
            have c7 := (HXr.out.below hI).cell
            have HBY := Lib.hid (bytes_any (some ⟨g3, 0, none⟩) j j X wq (HXr.out.below hI).row (by omega))
            clear hI hF
            go_wp2_with fail
            refine HBY.out.mono ?_
            rintro e w10 ⟨v, rfl, hO10, hB10⟩
            obtain ⟨A10, n10, c10, rfl, h10c, HL10, h10m, hr10⟩ := gr_open hO10
            have hn10 : n10 = j + 1 := by rw [← HL10.out, List.length_cons, hok3.1]
            subst hn10
            have hfx : isF (6 :: X) = true := by unfold isF; rw [HL10.out, decide_eq_true (by omega)]; rfl
            have HX10 := Lib.hid (HX7.out.below hB10)
            have hcb : Crc.isByte (6 :: X) := fun x hx => by
              rcases List.mem_cons.1 hx with h | h
              · omega
              · exact hok3.2 x h
            have HPA := Lib.hid (parse_any A10 (j + 1) c10 (6 :: X) w10 hr10 HL10.out hcb (by omega) h10c)
            clear hO10 hB10 hr10 c7 hcb
            go_wp2_with fail
            refine HPA.out.mono ?_
            rintro e w11 ⟨v, kk, rfl, hB11, hT11, hF11⟩
            obtain ⟨rfl, hO11⟩ := hT11 hfx
            obtain ⟨A11, n11, c11, rfl, h11c, HL11, h11m, hr11⟩ := gr_open hO11
            have hn11 : n11 = j := by rw [← HL11.out]; exact hok3.1
            subst hn11
            have HX11 := Lib.hid (HX10.out.below hB11)
            have hy := by_alloc (c := c11) HX11.out.bel hr11
            have hx12 := HX11.out.below (below_alloc (Below.refl _ _) (.cells #[.slice A11 n11 c11] 27))
            clear hB11 hT11 hF11 hO11 hr11 hfx
            go_upto_region 23 with fail
            generalize w11.heap.size = p11 at *
            generalize w11.alloc (.cells #[.slice A11 n11 c11] 27) = w12 at *
            have HX12 := Lib.hid hx12
            have HY12 := Lib.hid hy
            have hbt : ∀ (W : World), By w p11 A11 n11 c11 X W → Calls Tryd.prog 12 #[.agg #[.slice A11 n11 c11]] W fun e w' => ∃ v, e = .returned v ∧ Below W.heap.size W w' ∧ (FW.row .u8 (6 :: X)).p v w' := fun W h => (bytes_any A11 n11 c11 X W h.row (by omega)).mono fun e w' ⟨v, he, hO, hB⟩ => ⟨v, he, hB, isRow_gr hO⟩
            have HBY2 := Lib.hid hbt
            clear hx12 hy hbt
            refine draws_ _ (fun _ => True) (by kernel_rfl) reg_4_23 rfl inv0 (fun _ _ _ _ => trivial) (below_drew (Below.refl _ _)) trivial ?_
            refine w_move (.inl rfl) (fun vs w hK => ⟨wants_none rfl, rho_out rfl rfl⟩) ?_
            refine w_val [(87, _)] (.bool true) (fun vs w hK => ⟨wants_none rfl, rho_in rfl (fv (hK 0 (memE rfl))), trivial⟩) rfl (fun wq hI => by exact run_int_eql rfl rfl rfl rfl) ?_
            refine w_move (.inl rfl) (fun vs w hK => ⟨wants_none rfl, rho_in rfl (fv (hK 1 (memE rfl)))⟩) ?_
            refine w_val [(11, _)] (.agg #[.slice A11 n11 c11]) (fun vs w hK => ⟨wants_g rfl (fv (hK 2 (memE rfl))), rho_out rfl rfl, trivial⟩) rfl (fun wq hI => by exact run_load_op rfl rfl (run_loadAt_mid wq _ 0 27 [.slice A11 n11 c11] _ (range_block (HY12.out.below hI).box) Tryd.underlying27 rfl info27)) ?_
            refine w_callF (FW.row .u8 (6 :: X)) [(90, _)] _ (by decide) (fun vs w hK => ⟨wants_g rfl (fv (hK 2 (memE rfl))), rho_in rfl (fv (hK 3 (memE rfl))), trivial⟩) rfl rfl Tryd.func12 (by kernel_rfl) rfl (fun wq hI => HBY2.out wq (HY12.out.below hI)) (margs rfl) ?_
            refine w_str (j := 4) (by decide) Tryd.underlying9 Tryd.underlying5 tb rfl rfl (fun vs w hK => wants_g rfl (fv (hK 2 (memE rfl)))) (fun vs w hK => hK 4 (memE rfl)) ?_
            refine w_val [(3, _)] (.agg #[.slice (some ⟨g3, 0, none⟩) n11 n11]) (fun vs w hK => ⟨wants_g rfl (fv (hK 2 (memE rfl))), rho_out rfl rfl, trivial⟩) rfl (fun wq hI => by exact run_load_op rfl rfl (run_loadAt_mid wq _ 0 27 [.slice (some ⟨g3, 0, none⟩) n11 n11] _ (range_block (HX12.out.below hI).box) Tryd.underlying27 rfl info27)) ?_
            refine w_callF (FW.row .u8 (6 :: X)) [(93, _)] _ (by decide) (fun vs w hK => ⟨wants_g rfl (fv (hK 2 (memE rfl))), rho_in rfl (fv (hK 6 (memE rfl))), trivial⟩) rfl rfl Tryd.func12 (by kernel_rfl) rfl (fun wq hI => HBT.out _ _ wq (HX12.out.below hI)) (margs rfl) ?_
            refine w_str (j := 7) (by decide) Tryd.underlying9 Tryd.underlying5 tb rfl rfl (fun vs w hK => wants_g rfl (fv (hK 2 (memE rfl)))) (fun vs w hK => hK 7 (memE rfl)) ?_
            refine w_val [(92, _), (95, _)] (.bool true) (fun vs w hK => ⟨wants_g rfl (fv (hK 2 (memE rfl))), rho_in rfl (fv (hK 5 (memE rfl))), rho_in rfl (fv (hK 8 (memE rfl))), trivial⟩) rfl (fun wq hI => by exact run_eql_same rfl rfl rfl rfl) ?_
            refine w_pick (b := true) rfl (fun vs w hK => ⟨wants_none rfl, (rho_in rfl (fv (hK 2 (memE rfl)))), (rho_in rfl (fv (hK 9 (memE rfl))))⟩) ?_
            refine w_move (.inr rfl) (fun vs w hK => ⟨wants_none rfl, rho_in rfl (fv (hK 10 (memE rfl)))⟩) ?_
            refine w_end rfl rfl rfl (fun vs wq hI hF => ?_)
            simp only [List.reverse_cons, List.reverse_nil, List.nil_append, List.cons_append, finL_val, finL_of, finL_any, finL_app, finL_new, finL_gr, finL_row, finL_box, finL_nil, Act.put, List.setIfInBounds_toArray, List.set_cons_zero, List.set_cons_succ, Nat.reduceAdd]
            have HB13 := Lib.hid (HX12.out.below hI).bel
            clear hI hF
            go_wp2_with fail
            go_ret
            exact ⟨rfl, HB13.out⟩
end Go.Proofs.YtgnicgcdhldmmaaDoor.Blm

