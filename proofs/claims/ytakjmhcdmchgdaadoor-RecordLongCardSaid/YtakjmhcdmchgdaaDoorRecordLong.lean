/- The walk of the law RecordLong. -/
import Derived.Test.YtakjmhcdmchgdaaDoorRecordPuts
import Derived.Test.YtakjmhcdmchgdaaDoorCrcKnown
namespace Go.Proofs.YtakjmhcdmchgdaaDoor.Rec
set_option linter.unusedVariables false
set_option linter.unusedSimpArgs false
open Go.Proofs.YtakjmhcdmchgdaaDoor.Kit Go.Proofs.YtakjmhcdmchgdaaDoor.Num Go.RowKit Go.Proofs.YtakjmhcdmchgdaaDoorW.PrintWords Go.Proofs.YtakjmhcdmchgdaaDoorW.PrintLast Go.Proofs.YtakjmhcdmchgdaaDoorW.PrintMore NumPure
open Crc (Halves sum mask)
theorem byte_zeros (m : Nat) : Byte (List.replicate m (0 : Int)) := fun x hx => by rw [List.eq_of_mem_replicate hx]; omega
theorem reg_11_9 : RegOk (opsOf Tryd.f11 9) [[], [0], [0, 1], [0, 1, 2], [0, 1, 2, 3], [0, 1, 2], [0, 1, 2, 5], [0, 1, 2, 3, 4, 5, 6], [0, 1, 2, 3, 4, 5, 6, 7], [0, 1, 2, 3, 4, 5, 6, 7, 8]] [] [some 31, some 32, some 33, some 34, some 35, some 36, some 37, some 38, some 39, some 4] := regOk (by kernel_rfl)
theorem reg_11_11 : RegOk (opsOf Tryd.f11 11) [[], [0], [0, 1], [0, 1, 2], [0, 1, 2, 3], [0, 1, 2, 3, 4], [0, 1, 2, 3, 4, 5], [0, 1, 2, 3, 4, 5, 6], [0, 1, 2, 3, 4, 5, 6], [0, 1, 2, 3, 4, 5, 6, 8], [0, 1, 2, 3, 4, 5, 6, 8, 9], [0, 1, 2, 3, 4, 5, 6, 7, 8, 9, 10], [0, 1, 2, 3, 4, 5, 6, 7, 8, 9, 10, 11], [0, 1, 2, 3, 4, 5, 6, 7, 8, 9, 10, 11, 12], [0, 1, 2, 3, 4, 5, 6, 7, 8, 9, 10, 11, 12, 13], [0, 1, 2, 3, 4, 5, 6, 7, 8, 9, 10, 11, 12, 13, 14], [0, 1, 2, 3, 4, 5, 6, 7, 8, 9, 10, 11, 12, 13], [0, 1, 2, 3, 4, 5, 6, 7, 8, 9, 10, 11, 12, 13, 16], [0, 1, 2, 3, 4, 5, 6, 7, 8, 9, 10, 11, 12, 13, 14, 15, 16, 17], [0, 1, 2, 3, 4, 5, 6, 7, 8, 9, 10, 11, 12, 13, 14, 15, 16, 17, 18], [0, 1, 2, 3, 4, 5, 6, 7, 8, 9, 10, 11, 12, 13, 14, 15, 16, 17, 18, 19]] [] [some 49, some 50, some 51, some 52, some 53, some 54, some 55, some 56, some 57, some 58, some 59, some 60, some 61, some 62, some 63, some 64, some 65, some 66, some 67, some 68, some 4] := regOk (by kernel_rfl)
set_option maxRecDepth 20000 in
set_option maxHeartbeats 3200000 in
theorem long_any (A : Option Addr) (n c : Nat) (l : List Int) (N : Int) (w : World) (hT : Halves w) (hr : Rds .u8 w A n l) (hl : l.length = n) (hm : n * 1 ≤ 140737488351232) (hw : ∀ x ∈ l, (Lit.int .u8 x).wf = true) (hc : n ≤ c) (hN : (Lit.int .i64 N).wf = true) :
    Calls Tryd.prog 11 #[.slice A n c, .int .i64 N] w fun e w' => e = .returned (.bool true) ∧ Below w.heap.size w w' := by
  obtain ⟨k, hk, hk7⟩ := i64_mask N 7 (by omega)
  rw [show ((7 : Nat) : Int) = 7 from rfl] at hk
  have HB := Lib.hid (byte_wf' hw)
  have HR := Lib.hid hr
  have HL := Lib.hid hl
  have HT := Lib.hid hT
  clear hw hr hl hT hN
  have C0 := Lib.hid (head_any w HT.out)
  go_enter Tryd.func11, Tryd.ntmps11
  go_wp2_with fail
  refine C0.out.mono ?_
  rintro e w1 ⟨rfl, hb1⟩
  have HW1 := Lib.hid hb1
  clear hb1 C0
  go_upto_region 3 with fail
  rcases Nat.lt_or_ge 300 n with g1 | g1
  · have t1 : decide ((300 : Int) < (n : Int)) = true := decide_eq_true (by omega)
    go_wp2_with fail
    go_ret
    exact ⟨rfl, HW1.out⟩
  have t1 : decide ((300 : Int) < (n : Int)) = false := decide_eq_false (by omega)
  have hmk := make_run tb rfl (1048573 + k) (by omega)
  have hM : ((1048573 + k : Nat) : Int) = 1048573 + (k : Int) := by omega
  rw [hM] at hmk
  have hkb : (1048573 : Int) + (k : Int) ≤ 9223372036854775807 := by omega
  clear hM
  go_upto_region 7 with fail
  have hz : GrB (w1.alloc (.cells (madeCells #[.int .u8 0] (1048573 + k)) 5)) w.heap.size (.slice (some ⟨w1.heap.size, 0, none⟩) (1048573 + k) (1048573 + k)) (List.replicate (1048573 + k) 0) := .inl (own_of_make .u8 5 w1 w.heap.size (1048573 + k) HW1.out.size (by omega))
  have hwm : Below w.heap.size w (w1.alloc (.cells (madeCells #[.int .u8 0] (1048573 + k)) 5)) := below_alloc HW1.out _
  have HM : Hid ((1048573 + k : Nat) = 1048573 + k) := Lib.hid rfl
  have hm0 : 1048573 + k ≤ 1048580 := by omega
  generalize hmm : 1048573 + k = m at hz hwm hm0
  generalize w1.alloc (.cells (madeCells #[.int .u8 0] m) 5) = wM at hz hwm
  obtain ⟨AZ, nZ, cZ, hze, hzc, HLZ, hzm, hrz⟩ := gr_open hz
  injection hze with e1 e2 e3
  subst e1 e2 e3
  have HMM := Lib.hid hmm
  have HRZ := Lib.hid hrz
  have HWM := Lib.hid hwm
  clear hz hrz hwm hmk hk hkb hmm HM HLZ hzm hzc
  have hO : GrB (wM.alloc (.cells #[] 5)) wM.heap.size (.slice (some ⟨wM.heap.size, 0, none⟩) 0 0) [] := .inl (own_lit_ .u8 5 wM wM.heap.size [] 0 rfl (Nat.le_refl _) (by simp))
  have hB : Below wM.heap.size wM (wM.alloc (.cells #[] 5)) := below_alloc (Below.refl _ _) _
  have HO := Lib.hid hO
  have HOB := Lib.hid hB
  have HRM := Lib.hid (rds_below HR.out HWM.out)
  clear hO hB
  go_wp2_with (at_builtin; refine gapp_row tb rfl (.tmp 22) (.tmp 23) rfl rfl rfl HO.out (rds_below HRM.out HOB.out) HOB.out HOB.out.size ?cL ?_; (case cL => simp; omega); intro v2 w2 ho hb hs1 hf; have HO2 : Hid (GrB w2 wM.heap.size v2 ([] ++ l)) := Lib.hid ho; have HW2 : Hid (Below wM.heap.size wM w2) := Lib.hid hb; clear ho hb hs1 hf)
  clear HO HOB
  have HR2 := Lib.hid (rds_below HRM.out HW2.out)
  have HZ2 := Lib.hid (rds_below HRZ.out HW2.out)
  rcases Nat.lt_or_ge 3 k with hk3 | hk3
  · have t2 : decide ((3 : Int) < (k : Int)) = true := decide_eq_true (by omega)
    refine (recLong_any (some ⟨w1.heap.size, 0, none⟩) m m v2 w2 (by have := HMM.out; omega) (by omega)).mono ?_
    rintro e w3 ⟨rfl, rfl⟩
    go_upto_region 9 with fail
    have HO3 : Hid (GrB w2 wM.heap.size v2 l) := Lib.hid (by have := HO2.out; rwa [List.nil_append] at this)
    clear HO2
    refine plain_ (fun wq => Below w2.heap.size w2 wq) (fun _ => True) reg_11_9 rfl inv0 (fun _ _ _ _ => trivial) (Below.refl _ _) trivial ?_
    refine w_move (.inl rfl) (fun vs w hK => ⟨wants_none rfl, rho_out rfl rfl⟩) ?_
    refine w_val [(31, _)] _ (fun vs w hK => ⟨wants_none rfl, rho_in rfl (fv (hK 0 (by decide))), trivial⟩) rfl (fun wq hI => by simp only [execOp, Option.map_some, Option.map_none, lk_tmp, lk_const, lkT_cons, ↓reduceIte, Nat.reduceEqDiff]; go_simp; (first | done | rfl)) ?_
    refine w_move (.inl rfl) (fun vs w hK => ⟨wants_none rfl, rho_in rfl (fv (hK 1 (by decide)))⟩) ?_
    refine w_move (.inl rfl) (fun vs w hK => ⟨wants_g rfl (fv (hK 2 (by decide))), rho_out rfl rfl⟩) ?_
    refine w_val [(34, _)] (_) (fun vs w hK => ⟨wants_g rfl (fv (hK 2 (by decide))), rho_in rfl (fv (hK 3 (by decide))), trivial⟩) rfl (fun wq hI => by exact run_conv_op rfl rfl (conv_gr (dst := 9) tb Tryd.underlying5 Tryd.underlying9 (gr_below HO3.out hI))) ?_
    refine w_move (.inl rfl) (fun vs w hK => ⟨wants_g rfl (fv (hK 2 (by decide))), rho_out rfl rfl⟩) ?_
    refine w_val [(36, _)] (_) (fun vs w hK => ⟨wants_g rfl (fv (hK 2 (by decide))), rho_in rfl (fv (hK 5 (by decide))), trivial⟩) rfl (fun wq hI => by exact run_conv_op rfl rfl (conv_rds (dst := 9) tb Tryd.underlying5 Tryd.underlying9 (rds_below HR2.out hI))) ?_
    refine w_val [(35, _), (37, _)] _ (fun vs w hK => ⟨wants_g rfl (fv (hK 2 (by decide))), rho_in rfl (fv (hK 4 (by decide))), rho_in rfl (fv (hK 6 (by decide))), trivial⟩) rfl (fun wq hI => run_eql_same rfl rfl rfl rfl) ?_
    refine w_pick (b := true) rfl (fun vs w hK => ⟨wants_none rfl, (rho_in rfl (fv (hK 2 (by decide)))), (rho_in rfl (fv (hK 7 (by decide))))⟩) ?_
    refine w_move (.inr rfl) (fun vs w hK => ⟨wants_none rfl, rho_in rfl (fv (hK 8 (by decide)))⟩) ?_
    refine w_end rfl rfl rfl (fun vs wq hI hF => ?_)
    simp only [List.reverse_cons, List.reverse_nil, List.nil_append, List.cons_append, finL_val, finL_of, finL_any, finL_app, finL_new, finL_gr, finL_row, finL_box, finL_nil, Act.put, List.setIfInBounds_toArray, List.set_cons_zero, List.set_cons_succ, Nat.reduceAdd]
    have HW9 := Lib.hid (below_then HWM.out HWM.out.size (below_then HW2.out HW2.out.size hI))
    clear hI hF
    go_wp2_with fail
    go_ret
    exact ⟨rfl, HW9.out⟩
  · have t2 : decide ((3 : Int) < (k : Int)) = false := decide_eq_false (by omega)
    have hT2 := halves_of HT.out (below_then HWM.out HWM.out.size HW2.out)
    have hll : (List.replicate m (0 : Int)).length = m := List.length_replicate
    have hm1 : m ≤ 1048576 := by have := HMM.out; omega
    have C1 := Lib.hid (recPut_any (some ⟨w1.heap.size, 0, none⟩) m m _ v2 ([] ++ l) wM w2 (halves_of HT.out HWM.out) HO2.out HW2.out HRZ.out (byte_zeros m) (by rw [List.nil_append]; exact HB.out) hm1 (by simp; have := HL.out; omega))
    have hbz := byte_zeros m
    generalize List.replicate m (0 : Int) = z at C1 hll hbz
    refine C1.out.mono ?_
    rintro e w3 ⟨v3, rfl, hA⟩
    have hA' := hA.own
    have HW3 := Lib.hid (below_then HWM.out HWM.out.size hA.bel)
    rw [List.nil_append] at hA'
    obtain ⟨A3, n3, c3, rfl, h3c, HL3, h3m, hr3⟩ := gr_open hA'
    have hn3 : n3 = n + (12 + m) := by rw [← HL3.out, List.length_append, rec_length, hll, HL.out]
    subst hn3
    obtain ⟨A4, hcut, hC⟩ := cut_from (enc := Value.int .u8) (h1 := int_one .u8) 0 tb A3 (n + (12 + m)) c3 n (12 + m) (by omega) h3c (n : Int) rfl
    have hr4 := hC w3 _ hr3
    rw [List.drop_left' HL.out] at hr4
    have C2 := Lib.hid (recNext_any A4 (12 + m) (c3 - n) _ w3 (halves_of HT.out HW3.out) hr4 (rec_byte hbz) (by omega) (by omega))
    have hnx : next (rec_ z) = (z, 12 + z.length, 0) := by have := next_rec z [] (by omega); rwa [List.append_nil] at this
    rw [hll] at hnx
    have HNX := Lib.hid hnx
    have HLZ := Lib.hid hll
    clear hnx hA hA' C1 hr3 hr4 hC HO2 hT2 hll hbz
    go_wp2_with fail
    refine C2.out.mono ?_
    rintro e w4 ⟨v4, rfl, ho4, hb4⟩
    rw [HNX.out] at ho4 ⊢
    obtain ⟨A5, n5, c5, rfl, h5c, HL5, h5m, hr5⟩ := gr_open ho4
    have hn5 : n5 = m := by rw [← HL5.out]; exact HLZ.out
    subst hn5
    have HW4 := Lib.hid (below_then HW3.out HW3.out.size hb4)
    have hcast : ((12 + n5 : Nat) : Int) = 12 + (n5 : Int) := by omega
    simp only [hcast]
    clear ho4 hr5 hb4 C2 hcast
    have HWI : Hid (IntKind.i64.wrap (12 + (n5 : Int)) = 12 + (n5 : Int)) := Lib.hid (by rw [IntKind.wrap_i64]; omega)
    go_upto_region 11 with fail
    refine plain_ (fun wq => Below w4.heap.size w4 wq) (fun _ => True) reg_11_11 rfl inv0 (fun _ _ _ _ => trivial) (Below.refl _ _) trivial ?_
    refine w_move (.inl rfl) (fun vs w hK => ⟨wants_none rfl, rho_out rfl rfl⟩) ?_
    refine w_val [(49, _)] _ (fun vs w hK => ⟨wants_none rfl, rho_in rfl (fv (hK 0 (by decide))), trivial⟩) rfl (fun wq hI => by simp only [execOp, Option.map_some, Option.map_none, lk_tmp, lk_const, lkT_cons, ↓reduceIte, Nat.reduceEqDiff]; go_simp; (first | done | rfl)) ?_
    refine w_move (.inl rfl) (fun vs w hK => ⟨wants_none rfl, rho_in rfl (fv (hK 1 (by decide)))⟩) ?_
    refine w_move (.inl rfl) (fun vs w hK => ⟨wants_g rfl (fv (hK 2 (by decide))), rho_out rfl rfl⟩) ?_
    refine w_val [(52, _)] _ (fun vs w hK => ⟨wants_g rfl (fv (hK 2 (by decide))), rho_in rfl (fv (hK 3 (by decide))), trivial⟩) rfl (fun wq hI => by simp only [execOp, Option.map_some, Option.map_none, lk_tmp, lk_const, lkT_cons, ↓reduceIte, Nat.reduceEqDiff]; go_simp; (first | done | rfl)) ?_
    refine w_pick (b := true) rfl (fun vs w hK => ⟨wants_none rfl, (rho_in rfl (fv (hK 2 (by decide)))), (rho_in rfl (fv (hK 4 (by decide))))⟩) ?_
    refine w_move (.inl rfl) (fun vs w hK => ⟨wants_none rfl, rho_in rfl (fv (hK 5 (by decide)))⟩) ?_
    refine w_move (.inl rfl) (fun vs w hK => ⟨wants_g rfl (fv (hK 6 (by decide))), rho_out rfl rfl⟩) ?_
    refine w_move (.inl rfl) (fun vs w hK => ⟨wants_g rfl (fv (hK 6 (by decide))), rho_out rfl rfl⟩) ?_
    refine w_val [(57, _)] _ (fun vs w hK => ⟨wants_g rfl (fv (hK 6 (by decide))), rho_in rfl (fv (hK 8 (by decide))), trivial⟩) rfl (fun wq hI => by simp only [execOp, Option.map_some, Option.map_none, lk_tmp, lk_const, lkT_cons, ↓reduceIte, Nat.reduceEqDiff]; go_simp; (first | done | rfl)) ?_
    refine w_val [(58, _)] _ (fun vs w hK => ⟨wants_g rfl (fv (hK 6 (by decide))), rho_in rfl (fv (hK 9 (by decide))), trivial⟩) rfl (fun wq hI => by simp only [execOp, Option.map_some, Option.map_none, lk_tmp, lk_const, lkT_cons, ↓reduceIte, Nat.reduceEqDiff]; go_simp; (first | done | rfl)) ?_
    refine w_val [(56, _), (59, _)] (_) (fun vs w hK => ⟨wants_g rfl (fv (hK 6 (by decide))), rho_in rfl (fv (hK 7 (by decide))), rho_in rfl (fv (hK 10 (by decide))), trivial⟩) rfl (fun wq hI => by exact run_int_eql (r := true) rfl rfl rfl (by rw [HWI.out]; simp)) ?_
    refine w_pick (b := true) rfl (fun vs w hK => ⟨wants_none rfl, (rho_in rfl (fv (hK 6 (by decide)))), (rho_in rfl (fv (hK 11 (by decide))))⟩) ?_
    refine w_move (.inl rfl) (fun vs w hK => ⟨wants_none rfl, rho_in rfl (fv (hK 12 (by decide)))⟩) ?_
    refine w_move (.inl rfl) (fun vs w hK => ⟨wants_g rfl (fv (hK 13 (by decide))), rho_out rfl rfl⟩) ?_
    refine w_val [(63, _)] _ (fun vs w hK => ⟨wants_g rfl (fv (hK 13 (by decide))), rho_in rfl (fv (hK 14 (by decide))), trivial⟩) rfl (fun wq hI => by simp only [execOp, Option.map_some, Option.map_none, lk_tmp, lk_const, lkT_cons, ↓reduceIte, Nat.reduceEqDiff]; go_simp; (first | done | rfl)) ?_
    refine w_move (.inl rfl) (fun vs w hK => ⟨wants_g rfl (fv (hK 13 (by decide))), rho_out rfl rfl⟩) ?_
    refine w_val [(65, _)] _ (fun vs w hK => ⟨wants_g rfl (fv (hK 13 (by decide))), rho_in rfl (fv (hK 16 (by decide))), trivial⟩) rfl (fun wq hI => by simp only [execOp, Option.map_some, Option.map_none, lk_tmp, lk_const, lkT_cons, ↓reduceIte, Nat.reduceEqDiff]; go_simp; (first | done | rfl)) ?_
    refine w_val [(64, _), (66, _)] (_) (fun vs w hK => ⟨wants_g rfl (fv (hK 13 (by decide))), rho_in rfl (fv (hK 15 (by decide))), rho_in rfl (fv (hK 17 (by decide))), trivial⟩) rfl (fun wq hI => by exact run_int_eql (r := true) rfl rfl rfl (by simp)) ?_
    refine w_pick (b := true) rfl (fun vs w hK => ⟨wants_none rfl, (rho_in rfl (fv (hK 13 (by decide)))), (rho_in rfl (fv (hK 18 (by decide))))⟩) ?_
    refine w_move (.inr rfl) (fun vs w hK => ⟨wants_none rfl, rho_in rfl (fv (hK 19 (by decide)))⟩) ?_
    refine w_end rfl rfl rfl (fun vs wq hI hF => ?_)
    simp only [List.reverse_cons, List.reverse_nil, List.nil_append, List.cons_append, finL_val, finL_of, finL_any, finL_app, finL_new, finL_gr, finL_row, finL_box, finL_nil, Act.put, List.setIfInBounds_toArray, List.set_cons_zero, List.set_cons_succ, Nat.reduceAdd]
    have HW9 := Lib.hid (below_then HW4.out HW4.out.size hI)
    clear hI hF
    go_wp2_with fail
    go_ret
    exact ⟨rfl, HW9.out⟩
end Go.Proofs.YtakjmhcdmchgdaaDoor.Rec

