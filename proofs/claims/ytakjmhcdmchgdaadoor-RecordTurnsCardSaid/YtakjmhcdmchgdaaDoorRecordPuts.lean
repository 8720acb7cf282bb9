/- The walk of the law RecordPuts. -/
import Derived.Test.YtakjmhcdmchgdaaDoorRecD
namespace Go.Proofs.YtakjmhcdmchgdaaDoor.Rec
set_option linter.unusedVariables false
set_option linter.unusedSimpArgs false
open Go.Proofs.YtakjmhcdmchgdaaDoor.Kit Go.Proofs.YtakjmhcdmchgdaaDoor.Num Go.RowKit Go.Proofs.YtakjmhcdmchgdaaDoorW.PrintWords Go.Proofs.YtakjmhcdmchgdaaDoorW.PrintLast Go.Proofs.YtakjmhcdmchgdaaDoorW.PrintMore NumPure
open Crc (Halves sum mask)
theorem byte_wf' {l : List Int} (h : ∀ x ∈ l, (Lit.int .u8 x).wf = true) : Byte l := fun x hx => wf_u8 (h x hx)
theorem reg_9_3 : RegOk (opsOf Tryd.f9 3) [[], [0], [0, 1], [0, 1, 2], [0, 1, 2, 3], [0, 1, 2, 3, 4], [0, 1, 2, 3, 4, 5], [0, 1, 2, 3, 4, 5, 6], [0, 1, 2, 3, 4, 5, 6, 7], [0, 1, 2, 3, 4, 5, 6, 7, 8], [0, 1, 2, 3, 4, 5, 6, 7, 8, 9], [0, 1, 2, 3, 4, 5, 6, 7, 8, 9, 10], [0, 1, 2, 3, 4, 5, 6, 7, 8, 9, 10, 11]] [] [some 15, some 16, some 17, some 18, some 19, some 20, some 21, some 22, some 23, some 24, some 25, some 26, some 27] := regOk (by kernel_rfl)
theorem reg_9_7 : RegOk (opsOf Tryd.f9 7) [[], [0], [0, 1], [0, 1, 2], [0, 1, 2, 3], [0, 1, 2], [0, 1, 2, 5], [0, 1, 2], [0, 1, 2, 7], [0, 1, 2, 5, 6, 7, 8], [0, 1, 2, 3, 4, 5, 6, 7, 8, 9], [0, 1, 2, 3, 4, 5, 6, 7, 8, 9, 10]] [] [some 38, some 39, some 40, some 41, some 42, some 43, some 44, some 45, some 46, some 47, some 48, some 49] := regOk (by kernel_rfl)
theorem reg_9_10 : RegOk (opsOf Tryd.f9 10) [[], [0], [0, 1], [0, 1, 2], [0, 1, 2], [0, 1, 2, 4], [0, 1, 2, 3, 4, 5], [0, 1, 2, 3, 4, 5, 6], [0, 1, 2, 3, 4, 5, 6, 7], [0, 1, 2, 3, 4, 5, 6, 7, 8], [0, 1, 2, 3, 4, 5, 6, 7, 8, 9], [0, 1, 2, 3, 4, 5, 6, 7, 8], [0, 1, 2, 3, 4, 5, 6, 7, 8, 11], [0, 1, 2, 3, 4, 5, 6, 7, 8, 9, 10, 11, 12], [0, 1, 2, 3, 4, 5, 6, 7, 8, 9, 10, 11, 12, 13], [0, 1, 2, 3, 4, 5, 6, 7, 8, 9, 10, 11, 12, 13, 14]] [] [some 60, some 61, some 62, some 63, some 64, some 65, some 66, some 67, some 68, some 69, some 70, some 71, some 72, some 73, some 74, some 6] := regOk (by kernel_rfl)
set_option maxRecDepth 20000 in
set_option maxHeartbeats 3200000 in
theorem puts_any (A1 : Option Addr) (n1 c1 : Nat) (l1 : List Int) (A2 : Option Addr) (n2 c2 : Nat) (l2 : List Int) (A3 : Option Addr) (n3 c3 : Nat) (l3 : List Int) (w : World) (hT : Halves w)
    (hr1 : Rds .u8 w A1 n1 l1) (hl1 : l1.length = n1) (hm1 : n1 * 1 ≤ 140737488351232) (hw1 : ∀ x ∈ l1, (Lit.int .u8 x).wf = true) (hc1 : n1 ≤ c1)
    (hr2 : Rds .u8 w A2 n2 l2) (hl2 : l2.length = n2) (hm2 : n2 * 1 ≤ 140737488351232) (hw2 : ∀ x ∈ l2, (Lit.int .u8 x).wf = true) (hc2 : n2 ≤ c2)
    (hr3 : Rds .u8 w A3 n3 l3) (hl3 : l3.length = n3) (hm3 : n3 * 1 ≤ 140737488351232) (hw3 : ∀ x ∈ l3, (Lit.int .u8 x).wf = true) (hc3 : n3 ≤ c3) :
    Calls Tryd.prog 9 #[.slice A1 n1 c1, .slice A2 n2 c2, .slice A3 n3 c3] w fun e w' => e = .returned (.bool true) ∧ Below w.heap.size w w' := by
  have HB1 := Lib.hid (byte_wf' hw1)
  have HB2 := Lib.hid (byte_wf' hw2)
  have HB3 := Lib.hid (byte_wf' hw3)
  have HR1 := Lib.hid hr1
  have HR2 := Lib.hid hr2
  have HR3 := Lib.hid hr3
  have HL1 := Lib.hid hl1
  have HL2 := Lib.hid hl2
  have HL3 := Lib.hid hl3
  have HT := Lib.hid hT
  clear hw1 hw2 hw3 hr1 hr2 hr3 hl1 hl2 hl3 hT
  have C0 := Lib.hid (head_any w HT.out)
  go_enter Tryd.func9, Tryd.ntmps9
  go_wp2_with fail
  refine C0.out.mono ?_
  rintro e w1 ⟨rfl, hb1⟩
  have HW1 := Lib.hid hb1
  clear hb1 C0
  go_upto_region 3 with fail
  rcases Nat.lt_or_ge 300 n1 with g1 | g1
  · have t1 : decide ((300 : Int) < (n1 : Int)) = true := decide_eq_true (by omega)
    go_wp2_with fail
    go_ret
    exact ⟨rfl, HW1.out⟩
  rcases Nat.lt_or_ge 300 n2 with g2 | g2
  · have t1 : decide ((300 : Int) < (n1 : Int)) = false := decide_eq_false (by omega)
    have t2 : decide ((300 : Int) < (n2 : Int)) = true := decide_eq_true (by omega)
    go_wp2_with fail
    go_ret
    exact ⟨rfl, HW1.out⟩
  rcases Nat.lt_or_ge 300 n3 with g3 | g3
  · have t1 : decide ((300 : Int) < (n1 : Int)) = false := decide_eq_false (by omega)
    have t2 : decide ((300 : Int) < (n2 : Int)) = false := decide_eq_false (by omega)
    have t3 : decide ((300 : Int) < (n3 : Int)) = true := decide_eq_true (by omega)
    go_wp2_with fail
    go_ret
    exact ⟨rfl, HW1.out⟩
  have t1 : decide ((300 : Int) < (n1 : Int)) = false := decide_eq_false (by omega)
  have t2 : decide ((300 : Int) < (n2 : Int)) = false := decide_eq_false (by omega)
  have t3 : decide ((300 : Int) < (n3 : Int)) = false := decide_eq_false (by omega)
  have hO : GrB (w1.alloc (.cells #[] 5)) w.heap.size (.slice (some ⟨w1.heap.size, 0, none⟩) 0 0) [] := .inl (own_lit_ .u8 5 w1 w.heap.size [] 0 rfl HW1.out.size (by simp))
  have hB : Below w.heap.size w (w1.alloc (.cells #[] 5)) := below_alloc HW1.out _
  have HO := Lib.hid hO
  have HB := Lib.hid hB
  clear hO hB
  go_wp2_with (at_builtin; refine gapp_row tb rfl (.tmp 29) (.tmp 30) rfl rfl rfl HO.out (rds_below HR1.out HB.out) HB.out HB.out.size ?cL ?_; (case cL => simp; omega); intro v2 w2 ho hb hs1 hf; have HO2 : Hid (GrB w2 w.heap.size v2 ([] ++ l1)) := Lib.hid ho; have HW2 : Hid (Below w.heap.size w w2) := Lib.hid hb; clear ho hb hs1 hf)
  clear HO HB t1 t2 t3
  refine (recPut_any A2 n2 c2 l2 v2 ([] ++ l1) w w2 HT.out HO2.out HW2.out HR2.out HB2.out (by rw [List.nil_append]; exact HB1.out) (by omega) (by simp [HL1.out]; omega)).mono ?_
  rintro e w3 ⟨v3, rfl, hA⟩
  have HA : Hid (GrB w3 w.heap.size v3 (l1 ++ rec_ l2)) := Lib.hid hA.own
  have HW3 := Lib.hid hA.bel
  clear hA HO2 HW2
  have C2 := Lib.hid (of_any A2 n2 c2 l2 w3 (rds_below HR2.out HW3.out) HB2.out (by omega))
  go_wp2_with fail
  refine C2.out.mono ?_
  rintro e w4 ⟨v4, rfl, hM⟩
  have HA4 := Lib.hid (gr_below HA.out hM.bel)
  have HM4 := Lib.hid hM.own
  have HW4 := Lib.hid (below_then HW3.out HW3.out.size hM.bel)
  clear hM C2 HA
  have hz1 : (strOfNums l1).size = n1 := by rw [strOfNums_size]; exact HL1.out
  have hz2 : (strOfNums (rec_ l2)).size = 12 + n2 := by rw [strOfNums_size, rec_length, HL2.out]
  have HZ1 := Lib.hid hz1
  have HZ2 := Lib.hid hz2
  clear hz1 hz2
  go_upto_region 7 with fail
  refine plain_ (fun wq => Below w4.heap.size w4 wq) (fun _ => True) reg_9_7 rfl inv0 (fun _ _ _ _ => trivial) (Below.refl _ _) trivial ?_
  refine w_move (.inl rfl) (fun vs w hK => ⟨wants_none rfl, rho_out rfl rfl⟩) ?_
  refine w_val [(38, _)] _ (fun vs w hK => ⟨wants_none rfl, rho_in rfl (fv (hK 0 (by decide))), trivial⟩) rfl (fun wq hI => by simp only [execOp, Option.map_some, Option.map_none, lk_tmp, lk_const, lkT_cons, ↓reduceIte, Nat.reduceEqDiff]; go_simp; (first | done | rfl)) ?_
  refine w_move (.inl rfl) (fun vs w hK => ⟨wants_none rfl, rho_in rfl (fv (hK 1 (by decide)))⟩) ?_
  refine w_move (.inl rfl) (fun vs w hK => ⟨wants_g rfl (fv (hK 2 (by decide))), rho_out rfl rfl⟩) ?_
  refine w_val [(41, _)] (_) (fun vs w hK => ⟨wants_g rfl (fv (hK 2 (by decide))), rho_in rfl (fv (hK 3 (by decide))), trivial⟩) rfl (fun wq hI => by exact run_conv_op rfl rfl ((conv_gr (dst := 9) tb Tryd.underlying5 Tryd.underlying9 (gr_below HA4.out hI)).trans (by rw [str_append]))) ?_
  refine w_move (.inl rfl) (fun vs w hK => ⟨wants_g rfl (fv (hK 2 (by decide))), rho_out rfl rfl⟩) ?_
  refine w_val [(43, _)] (_) (fun vs w hK => ⟨wants_g rfl (fv (hK 2 (by decide))), rho_in rfl (fv (hK 5 (by decide))), trivial⟩) rfl (fun wq hI => by exact run_conv_op rfl rfl (conv_rds (dst := 9) tb Tryd.underlying5 Tryd.underlying9 (rds_below HR1.out (below_then HW4.out HW4.out.size hI)))) ?_
  refine w_move (.inl rfl) (fun vs w hK => ⟨wants_g rfl (fv (hK 2 (by decide))), rho_out rfl rfl⟩) ?_
  refine w_val [(45, _)] (_) (fun vs w hK => ⟨wants_g rfl (fv (hK 2 (by decide))), rho_in rfl (fv (hK 7 (by decide))), trivial⟩) rfl (fun wq hI => by exact run_conv_op rfl rfl (conv_gr (dst := 9) tb Tryd.underlying5 Tryd.underlying9 (gr_below HM4.out hI))) ?_
  refine w_val [(44, _), (46, _)] _ (fun vs w hK => ⟨wants_g rfl (fv (hK 2 (by decide))), rho_in rfl (fv (hK 6 (by decide))), rho_in rfl (fv (hK 8 (by decide))), trivial⟩) rfl (fun wq hI => run_cat_op rfl rfl rfl (by simp only [ByteArray.size_append, szc, HZ1.out, HZ2.out]; omega)) ?_
  refine w_val [(42, _), (47, _)] _ (fun vs w hK => ⟨wants_g rfl (fv (hK 2 (by decide))), rho_in rfl (fv (hK 4 (by decide))), rho_in rfl (fv (hK 9 (by decide))), trivial⟩) rfl (fun wq hI => run_neq_same rfl rfl rfl rfl) ?_
  refine w_pick (b := false) rfl (fun vs w hK => ⟨wants_none rfl, (rho_in rfl (fv (hK 2 (by decide)))), (rho_in rfl (fv (hK 10 (by decide))))⟩) ?_
  refine w_end rfl rfl rfl (fun vs wq hI hF => ?_)
  simp only [List.reverse_cons, List.reverse_nil, List.nil_append, List.cons_append, finL_val, finL_of, finL_any, finL_app, finL_new, finL_gr, finL_row, finL_box, finL_nil, Act.put, List.setIfInBounds_toArray, List.set_cons_zero, List.set_cons_succ, Nat.reduceAdd]
  have HW5 := Lib.hid (below_then HW4.out HW4.out.size hI)
  have HM5 := Lib.hid (gr_below HM4.out hI)
  obtain ⟨A5, n5, c5, rfl, h5c, HL5, h5m, hr5⟩ := gr_open HM5.out
  have HR5 := Lib.hid hr5
  clear hI hF hr5
  have hO : GrB (wq.alloc (.cells #[] 5)) wq.heap.size (.slice (some ⟨wq.heap.size, 0, none⟩) 0 0) [] := .inl (own_lit_ .u8 5 wq wq.heap.size [] 0 rfl (Nat.le_refl _) (by simp))
  have hB : Below wq.heap.size wq (wq.alloc (.cells #[] 5)) := below_alloc (Below.refl _ _) _
  have HO := Lib.hid hO
  have HB := Lib.hid hB
  clear hO hB
  have hn5 : n5 = 12 + n2 := by rw [← HL5.out, rec_length, HL2.out]
  have HN5 := Lib.hid hn5
  clear hn5
  go_wp2_with (first
    | (at_builtin; refine gapp_row tb rfl (.tmp 51) (.tmp 52) rfl rfl rfl HO.out (rds_below HR5.out HB.out) HB.out HB.out.size ?cL ?_; (case cL => simp; have := HN5.out; omega); intro v6 w6 ho hb hs1 hf; have HO6 : Hid (GrB w6 wq.heap.size v6 ([] ++ rec_ l2)) := Lib.hid ho; have HB6 : Hid (Below wq.heap.size wq w6) := Lib.hid hb; clear ho hb hs1 hf)
    | (at_builtin; refine gapp_row tb rfl (.tmp 53) (.tmp 54) rfl rfl rfl HO6.out (rds_below HR3.out (below_then HW5.out HW5.out.size HB6.out)) HB6.out HB6.out.size ?cL ?_; (case cL => simp [rec_length, HL2.out]; omega); intro v7 w7 ho hb hs1 hf; have HO7 : Hid (GrB w7 wq.heap.size v7 ([] ++ rec_ l2 ++ l3)) := Lib.hid ho; have HB7 : Hid (Below wq.heap.size wq w7) := Lib.hid hb; clear ho hb hs1 hf))
  clear HO HB HO6 HB6
  obtain ⟨A7, n7, c7, rfl, h7c, HL7, h7m, hr7⟩ := gr_open HO7.out
  rw [List.nil_append] at hr7
  have hn7 : n7 = 12 + n2 + n3 := by rw [← HL7.out, List.nil_append, List.length_append, rec_length, HL2.out, HL3.out]
  have HW7 := Lib.hid (below_then HW5.out HW5.out.size HB7.out)
  have C7 := Lib.hid (recNext_any A7 n7 c7 _ w7 (halves_of HT.out HW7.out) hr7 (Byte.append (rec_byte HB2.out) HB3.out) h7c (by omega))
  clear hr7 HO7 HL7 hn7
  refine C7.out.mono ?_
  rintro e w8 ⟨v8, rfl, ho8, hb8⟩
  rw [next_rec l2 l3 (by rw [HL2.out]; omega)] at ho8 ⊢
  have HO8 := Lib.hid ho8
  have HW8 := Lib.hid (below_then HW7.out HW7.out.size hb8)
  have hlen : ((12 + l2.length : Nat) : Int) = (n5 : Int) := by rw [HL2.out, HN5.out]
  rw [hlen]
  clear ho8 hb8 C7 hlen
  go_upto_region 10 with fail
  refine plain_ (fun wq => Below w8.heap.size w8 wq) (fun _ => True) reg_9_10 rfl inv0 (fun _ _ _ _ => trivial) (Below.refl _ _) trivial ?_
  refine w_move (.inl rfl) (fun vs w hK => ⟨wants_none rfl, rho_out rfl rfl⟩) ?_
  refine w_val [(60, _)] _ (fun vs w hK => ⟨wants_none rfl, rho_in rfl (fv (hK 0 (by decide))), trivial⟩) rfl (fun wq hI => by simp only [execOp, Option.map_some, Option.map_none, lk_tmp, lk_const, lkT_cons, ↓reduceIte, Nat.reduceEqDiff]; go_simp; (first | done | rfl)) ?_
  refine w_move (.inl rfl) (fun vs w hK => ⟨wants_none rfl, rho_in rfl (fv (hK 1 (by decide)))⟩) ?_
  refine w_move (.inl rfl) (fun vs w hK => ⟨wants_g rfl (fv (hK 2 (by decide))), rho_out rfl rfl⟩) ?_
  refine w_move (.inl rfl) (fun vs w hK => ⟨wants_g rfl (fv (hK 2 (by decide))), rho_out rfl rfl⟩) ?_
  refine w_val [(64, _)] _ (fun vs w hK => ⟨wants_g rfl (fv (hK 2 (by decide))), rho_in rfl (fv (hK 4 (by decide))), trivial⟩) rfl (fun wq hI => by simp only [execOp, Option.map_some, Option.map_none, lk_tmp, lk_const, lkT_cons, ↓reduceIte, Nat.reduceEqDiff]; go_simp; (first | done | rfl)) ?_
  refine w_val [(63, _), (65, _)] (_) (fun vs w hK => ⟨wants_g rfl (fv (hK 2 (by decide))), rho_in rfl (fv (hK 3 (by decide))), rho_in rfl (fv (hK 5 (by decide))), trivial⟩) rfl (fun wq hI => by exact run_int_eql (r := true) rfl rfl rfl (by simp)) ?_
  refine w_pick (b := true) rfl (fun vs w hK => ⟨wants_none rfl, (rho_in rfl (fv (hK 2 (by decide)))), (rho_in rfl (fv (hK 6 (by decide))))⟩) ?_
  refine w_move (.inl rfl) (fun vs w hK => ⟨wants_none rfl, rho_in rfl (fv (hK 7 (by decide)))⟩) ?_
  refine w_move (.inl rfl) (fun vs w hK => ⟨wants_g rfl (fv (hK 8 (by decide))), rho_out rfl rfl⟩) ?_
  refine w_val [(69, _)] (_) (fun vs w hK => ⟨wants_g rfl (fv (hK 8 (by decide))), rho_in rfl (fv (hK 9 (by decide))), trivial⟩) rfl (fun wq hI => by exact run_conv_op rfl rfl (conv_gr (dst := 9) tb Tryd.underlying5 Tryd.underlying9 (gr_below HO8.out hI))) ?_
  refine w_move (.inl rfl) (fun vs w hK => ⟨wants_g rfl (fv (hK 8 (by decide))), rho_out rfl rfl⟩) ?_
  refine w_val [(71, _)] (_) (fun vs w hK => ⟨wants_g rfl (fv (hK 8 (by decide))), rho_in rfl (fv (hK 11 (by decide))), trivial⟩) rfl (fun wq hI => by exact run_conv_op rfl rfl (conv_rds (dst := 9) tb Tryd.underlying5 Tryd.underlying9 (rds_below HR2.out (below_then HW8.out HW8.out.size hI)))) ?_
  refine w_val [(70, _), (72, _)] _ (fun vs w hK => ⟨wants_g rfl (fv (hK 8 (by decide))), rho_in rfl (fv (hK 10 (by decide))), rho_in rfl (fv (hK 12 (by decide))), trivial⟩) rfl (fun wq hI => run_eql_same rfl rfl rfl rfl) ?_
  refine w_pick (b := true) rfl (fun vs w hK => ⟨wants_none rfl, (rho_in rfl (fv (hK 8 (by decide)))), (rho_in rfl (fv (hK 13 (by decide))))⟩) ?_
  refine w_move (.inr rfl) (fun vs w hK => ⟨wants_none rfl, rho_in rfl (fv (hK 14 (by decide)))⟩) ?_
  refine w_end rfl rfl rfl (fun vs wq hI hF => ?_)
  simp only [List.reverse_cons, List.reverse_nil, List.nil_append, List.cons_append, finL_val, finL_of, finL_any, finL_app, finL_new, finL_gr, finL_row, finL_box, finL_nil, Act.put, List.setIfInBounds_toArray, List.set_cons_zero, List.set_cons_succ, Nat.reduceAdd]
  have HW9 := Lib.hid (below_then HW8.out HW8.out.size hI)
  clear hI hF
  go_wp2_with fail
  go_ret
  exact ⟨rfl, HW9.out⟩
end Go.Proofs.YtakjmhcdmchgdaaDoor.Rec

