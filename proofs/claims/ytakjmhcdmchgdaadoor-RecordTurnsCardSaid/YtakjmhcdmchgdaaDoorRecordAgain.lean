/- The walk of the law RecordAgain. -/
import Derived.Test.YtakjmhcdmchgdaaDoorRecE
namespace Go.Proofs.YtakjmhcdmchgdaaDoor.Rec
set_option linter.unusedVariables false
set_option linter.unusedSimpArgs false
open Go.Proofs.YtakjmhcdmchgdaaDoor.Kit Go.Proofs.YtakjmhcdmchgdaaDoor.Num Go.RowKit Go.Proofs.YtakjmhcdmchgdaaDoorW.PrintWords Go.Proofs.YtakjmhcdmchgdaaDoorW.PrintLast Go.Proofs.YtakjmhcdmchgdaaDoorW.PrintMore NumPure
open Crc (Halves sum mask sum_any mask_any mask_lt sum_lt refsum_any refmask_any own_rds_)
theorem lay_append (xs ys : List (List Int)) : lay (xs ++ ys) = lay xs ++ lay ys := by simp [lay]
theorem take_snocL {α : Type} {ds : List α} {d0 : α} {k : Nat} (h : k < ds.length) : ds.take (k + 1) = ds.take k ++ [ds.getD k d0] := by
  rw [List.take_succ_eq_append_getElem h, List.getD_eq_getElem?_getD, List.getElem?_eq_getElem h]
  rfl
theorem lay_take_le (ds : List (List Int)) (k : Nat) : (lay (ds.take k)).length ≤ (lay ds).length := by
  have h : lay ds = lay (ds.take k) ++ lay (ds.drop k) := by rw [← lay_append, List.take_append_drop]
  rw [h, List.length_append]; omega
theorem lay_byte {ds : List (List Int)} (h : ∀ d ∈ ds, Byte d) : Byte (lay ds) := by
  intro x hx
  obtain ⟨d, hd, hx⟩ := List.mem_flatMap.1 hx
  exact rec_byte (h d hd) x hx
theorem reg_14_17 : RegOk (opsOf Tryd.f14 17) [[], [], [1], [0, 1, 2], [0, 1, 2, 3], [0, 1, 2, 3, 4], [0, 1, 2, 3, 4], [0, 1, 2, 3, 4, 6], [0, 1, 2, 3, 4, 5, 6, 7], [0, 1, 2, 3, 4, 5, 6, 7, 8], [0, 1, 2, 3, 4, 5, 6, 7, 8, 9], [0, 1, 2, 3, 4, 5, 6, 7, 8, 9, 10], [0, 1, 2, 3, 4, 5, 6, 7, 8, 9, 10, 11], [0, 1, 2, 3, 4, 5, 6, 7, 8, 9, 10], [0, 1, 2, 3, 4, 5, 6, 7, 8, 9, 10], [0, 1, 2, 3, 4, 5, 6, 7, 8, 9, 10, 13, 14], [0, 1, 2, 3, 4, 5, 6, 7, 8, 9, 10, 13, 14, 15], [0, 1, 2, 3, 4, 5, 6, 7, 8, 9, 10, 11, 12, 13, 14, 15, 16], [0, 1, 2, 3, 4, 5, 6, 7, 8, 9, 10, 11, 12, 13, 14, 15, 16, 17], [0, 1, 2, 3, 4, 5, 6, 7, 8, 9, 10, 11, 12, 13, 14, 15, 16, 17, 18]] [] [some 45, some 46, some 47, some 48, some 49, some 50, some 51, some 52, some 53, some 54, some 55, some 56, some 57, some 58, some 59, some 60, some 61, some 62, some 63, some 2] := regOk (by kernel_rfl)
set_option maxRecDepth 20000 in
set_option maxHeartbeats 3200000 in
theorem again_any (A : Option Addr) (n c : Nat) (l : List Int) (w : World) (hT : Halves w) (hr : Rds .u8 w A n l) (hl : l.length = n) (hm : n * 1 ≤ 140737488351232) (hw : ∀ x ∈ l, (Lit.int .u8 x).wf = true) (hc : n ≤ c) :
    Calls Tryd.prog 14 #[.slice A n c] w fun e w' => e = .returned (.bool true) ∧ Below w.heap.size w w' := by
  have HB := Lib.hid (byte_wf' hw)
  have HR := Lib.hid hr
  have HL := Lib.hid hl
  have HT := Lib.hid hT
  clear hw hr hl hT
  have C0 := Lib.hid (head_any w HT.out)
  go_enter Tryd.func14, Tryd.ntmps14
  go_wp2_with fail
  refine C0.out.mono ?_
  rintro e w1 ⟨rfl, hb1⟩
  have HW1 := Lib.hid hb1
  clear hb1 C0
  go_upto_region 3 with fail
  rcases Nat.lt_or_ge 600 n with g1 | g1
  · have t1 : decide ((600 : Int) < (n : Int)) = true := decide_eq_true (by omega)
    go_wp2_with fail
    go_ret
    exact ⟨rfl, HW1.out⟩
  have t1 : decide ((600 : Int) < (n : Int)) = false := decide_eq_false (by omega)
  have C1 := Lib.hid (all_any A n c l w1 (halves_of HT.out HW1.out) (rds_below HR.out HW1.out) HB.out hc (by omega))
  go_wp2_with fail
  refine C1.out.mono ?_
  rintro e w3 ⟨lv, a, ex, ds, rfl, hit, hb3, hch, hex⟩
  obtain ⟨ha1, hla, _, hds⟩ := chain_lay HB.out hch
  rw [HL.out] at ha1
  obtain ⟨xs, hx1, hx2, hx3⟩ := hit.row
  obtain ⟨AL, nL, cL, rfl, hLc, HLL, hLm, hrL⟩ := gr_open hx1
  have hnL : nL = ds.length := by rw [← HLL.out, hx2]
  have HW3 := Lib.hid (below_then HW1.out HW1.out.size hb3)
  have HRL := Lib.hid hrL
  have HX3 := Lib.hid hx3
  have HDS := Lib.hid hds
  have HLA := Lib.hid hla
  have hlayl : (lay ds).length = a := by rw [← hla, List.length_take, HL.out]; omega
  have HLY := Lib.hid hlayl
  obtain ⟨hcutA, hCA⟩ := cut_to (enc := Value.int .u8) (h1 := int_one .u8) 0 tb A n c a ha1 hc (a : Int) rfl
  have HCA : Hid (∀ wq, Below w3.heap.size w3 wq → Rds .u8 wq A a (l.take a)) := Lib.hid (fun wq h => hCA wq _ (rds_below HR.out (below_then HW3.out HW3.out.size h)))
  have HT3 := Lib.hid (halves_of HT.out HW3.out)
  have h0 : GrB (w3.alloc (.cells #[] 5)) w3.heap.size (.slice (some ⟨w3.heap.size, 0, none⟩) 0 0) (lay (ds.take 0)) := .inl (own_lit_ .u8 5 w3 w3.heap.size [] 0 rfl (Nat.le_refl _) (by simp))
  have H0 := Lib.hid h0
  have H1 : Hid (Below w3.heap.size w3 (w3.alloc (.cells #[] 5))) := Lib.hid (below_alloc (Below.refl _ _) _)
  clear hit hch hx1 hx2 hx3 hrL hds hla hCA C1 h0 HLL hlayl
  subst hnL
  rcases hex with ⟨rfl, _⟩ | ⟨rfl, _⟩
  all_goals
    go_wp2_with fail
    go_loopw [6, 31] (fun out i wr => ∃ (k : Nat) (v : Value), v = out ∧ i = .int .i64 k ∧ k ≤ ds.length ∧ Hid (GrB wr w3.heap.size v (lay (ds.take k))) ∧ Hid (Below w3.heap.size w3 wr)) (fun _ i _ => ds.length - (intOf i).toNat)
    case atStart => exact ⟨0, _, rfl, rfl, Nat.zero_le _, H0, H1⟩
    case round =>
      obtain ⟨k, v, hv, rfl, hk, HO, HW⟩ := hrel
      subst hv
      clear H0 H1
      by_cases hlt : k < ds.length
      · have t2 : decide ((k : Int) < (ds.length : Int)) = true := decide_eq_true (by omega)
        obtain ⟨ad, e1, hc1⟩ := rds_at default (rds_below HRL.out HW.out) k hlt
        subst e1
        have hx := HX3.out k hlt
        have hsn : lay (ds.take (k + 1)) = lay (ds.take k) ++ rec_ (ds.getD k []) := by rw [take_snocL (d0 := []) hlt, lay_snoc]
        have hdk := HDS.out (ds.getD k []) (by rw [List.getD_eq_getElem?_getD, List.getElem?_eq_getElem hlt]; exact List.getElem_mem _)
        have hlk := lay_take_le ds k
        rw [HLY.out] at hlk
        have hbk : Byte (lay (ds.take k)) := lay_byte (fun d hd => (HDS.out d (List.mem_of_mem_take hd)).2)
        generalize xs.getD k default = x at hc1 hx
        obtain ⟨Ax, nx, cx⟩ := x
        have hc1' : wr.cell? (ad.add k) = some (.slice Ax nx cx) := hc1
        obtain ⟨A5, n5, c5, e5, h5c, HL5, h5m, hr5⟩ := gr_open hx.1
        obtain ⟨rfl, rfl, rfl⟩ : Ax = A5 ∧ nx = n5 ∧ cx = c5 := by injection e5 with q1 q2 q3; exact ⟨q1, q2, q3⟩
        have C2 := Lib.hid (recPut_any Ax nx cx (ds.getD k []) v _ w3 wr HT3.out HO.out HW.out hr5 hdk.2 hbk (by rw [← HL5.out]; exact hdk.1) (by omega))
        have HSN := Lib.hid hsn
        have i0 : (0 : Int) ≤ (k : Int) := by omega
        have i1 : (k : Int) < (ds.length : Int) := by omega
        clear hc1 hx hsn hdk hbk hr5 e5
        go_wp2_with fail
        refine C2.out.mono ?_
        rintro e w5 ⟨v5, rfl, hA⟩
        have HO5 : Hid (GrB w5 w3.heap.size v5 (lay (ds.take (k + 1)))) := Lib.hid (by rw [HSN.out]; exact hA.own)
        have HW5 := Lib.hid hA.bel
        clear hA C2 HO HW
        go_wp2_with fail
        go_roundw
        case rel => exact ⟨k + 1, _, rfl, by go_num, by omega, HO5, HW5⟩
        case measure => simp [intOf]; omega
      · obtain rfl : k = ds.length := by omega
        have t2 : decide ((ds.length : Int) < (ds.length : Int)) = false := by simp
        have ho := HO.out
        rw [List.take_length] at ho
        obtain ⟨A5, n5, c5, rfl, h5c, HL5, h5m, hr5⟩ := gr_open ho
        have hn5 : n5 = a := by rw [← HL5.out, HLY.out]
        subst hn5
        have HO5 := Lib.hid ho
        have HWR := HW
        clear ho hr5 HO
        obtain ⟨wo, rfl⟩ : ∃ wo : World, wo = wr := ⟨_, rfl⟩
        go_upto_region 17 with fail
        refine draws_ (fun wq => Below wo.heap.size wo wq) (fun _ => True) (by kernel_rfl) reg_14_17 rfl inv0 (fun _ _ _ _ => trivial) (below_drew (Below.refl _ _)) trivial ?_
        refine w_move (.inl rfl) (fun vs w hK => ⟨wants_none rfl, rho_out rfl rfl⟩) ?_
        refine w_move (.inl rfl) (fun vs w hK => ⟨wants_none rfl, rho_out rfl rfl⟩) ?_
        refine w_val [(46, _)] _ (fun vs w hK => ⟨wants_none rfl, rho_in rfl (fv (hK 1 (by decide))), trivial⟩) rfl (fun wq hI => by simp only [execOp, Option.map_some, Option.map_none, lk_tmp, lk_const, lkT_cons, ↓reduceIte, Nat.reduceEqDiff]; go_simp; (first | done | rfl)) ?_
        refine w_val [(45, _), (47, _)] (_) (fun vs w hK => ⟨wants_none rfl, rho_in rfl (fv (hK 0 (by decide))), rho_in rfl (fv (hK 2 (by decide))), trivial⟩) rfl (fun wq hI => by exact run_int_eql (r := true) rfl rfl rfl (by simp)) ?_
        refine w_move (.inl rfl) (fun vs w hK => ⟨wants_none rfl, rho_in rfl (fv (hK 3 (by decide)))⟩) ?_
        refine w_move (.inl rfl) (fun vs w hK => ⟨wants_g rfl (fv (hK 4 (by decide))), rho_out rfl rfl⟩) ?_
        refine w_move (.inl rfl) (fun vs w hK => ⟨wants_g rfl (fv (hK 4 (by decide))), rho_out rfl rfl⟩) ?_
        refine w_val [(51, _)] _ (fun vs w hK => ⟨wants_g rfl (fv (hK 4 (by decide))), rho_in rfl (fv (hK 6 (by decide))), trivial⟩) rfl (fun wq hI => by simp only [execOp, Option.map_some, Option.map_none, lk_tmp, lk_const, lkT_cons, ↓reduceIte, Nat.reduceEqDiff]; go_simp; (first | done | rfl)) ?_
        refine w_val [(50, _), (52, _)] (_) (fun vs w hK => ⟨wants_g rfl (fv (hK 4 (by decide))), rho_in rfl (fv (hK 5 (by decide))), rho_in rfl (fv (hK 7 (by decide))), trivial⟩) rfl (fun wq hI => by exact run_int_leq (r := true) rfl rfl rfl (decide_eq_true (by omega))) ?_
        refine w_pick (b := true) rfl (fun vs w hK => ⟨wants_none rfl, (rho_in rfl (fv (hK 4 (by decide)))), (rho_in rfl (fv (hK 8 (by decide))))⟩) ?_
        refine w_move (.inl rfl) (fun vs w hK => ⟨wants_none rfl, rho_in rfl (fv (hK 9 (by decide)))⟩) ?_
        refine w_move (.inl rfl) (fun vs w hK => ⟨wants_g rfl (fv (hK 10 (by decide))), rho_out rfl rfl⟩) ?_
        refine w_val [(56, _)] (_) (fun vs w hK => ⟨wants_g rfl (fv (hK 10 (by decide))), rho_in rfl (fv (hK 11 (by decide))), trivial⟩) rfl (fun wq hI => by exact run_conv_op rfl rfl (conv_gr (dst := 9) tb Tryd.underlying5 Tryd.underlying9 (gr_below HO5.out hI))) ?_
        refine w_move (.inl rfl) (fun vs w hK => ⟨wants_g rfl (fv (hK 10 (by decide))), rho_out rfl rfl⟩) ?_
        refine w_move (.inl rfl) (fun vs w hK => ⟨wants_g rfl (fv (hK 10 (by decide))), rho_out rfl rfl⟩) ?_
        refine w_val [(58, _), (59, _)] _ (fun vs w hK => ⟨wants_g rfl (fv (hK 10 (by decide))), rho_in rfl (fv (hK 13 (by decide))), rho_in rfl (fv (hK 14 (by decide))), trivial⟩) rfl (fun wq hI => by simp only [execOp, Option.map_some, Option.map_none, lk_tmp, lk_const, lkT_cons, ↓reduceIte, Nat.reduceEqDiff]; go_simp; (first | done | rfl)) ?_
        refine w_val [(60, _)] (_) (fun vs w hK => ⟨wants_g rfl (fv (hK 10 (by decide))), rho_in rfl (fv (hK 15 (by decide))), trivial⟩) rfl (fun wq hI => by exact run_conv_op rfl rfl (conv_rds (dst := 9) tb Tryd.underlying5 Tryd.underlying9 (HCA.out wq (below_then HWR.out HWR.out.size hI)))) ?_
        refine w_val [(57, _), (61, _)] (_) (fun vs w hK => ⟨wants_g rfl (fv (hK 10 (by decide))), rho_in rfl (fv (hK 12 (by decide))), rho_in rfl (fv (hK 16 (by decide))), trivial⟩) rfl (fun wq hI => by exact run_eql_same rfl rfl rfl (by rw [HLA.out])) ?_
        refine w_pick (b := true) rfl (fun vs w hK => ⟨wants_none rfl, (rho_in rfl (fv (hK 10 (by decide)))), (rho_in rfl (fv (hK 17 (by decide))))⟩) ?_
        refine w_move (.inr rfl) (fun vs w hK => ⟨wants_none rfl, rho_in rfl (fv (hK 18 (by decide)))⟩) ?_
        refine w_end rfl rfl rfl (fun vs wq hI hF => ?_)
        simp only [List.reverse_cons, List.reverse_nil, List.nil_append, List.cons_append, finL_val, finL_of, finL_any, finL_app, finL_new, finL_gr, finL_row, finL_box, finL_nil, Act.put, List.setIfInBounds_toArray, List.set_cons_zero, List.set_cons_succ, Nat.reduceAdd]
        have HW9 := Lib.hid (below_then HW3.out HW3.out.size (below_then HWR.out HWR.out.size hI))
        clear hI hF
        go_wp2_with fail
        go_ret
        exact ⟨rfl, HW9.out⟩
end Go.Proofs.YtakjmhcdmchgdaaDoor.Rec

