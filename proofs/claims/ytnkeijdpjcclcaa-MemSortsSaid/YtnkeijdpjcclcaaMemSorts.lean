/- The walk of the law MemSorts: whatever is put, looked for and dropped (printed by genmemsorts.py). -/
import Derived.Test.YtnkeijdpjcclcaaMemF
namespace Go.Proofs.Ytnkeijdpjcclcaa.Mem
set_option linter.unusedVariables false
set_option linter.unusedSimpArgs false
open Go.Proofs.Ytnkeijdpjcclcaa.Kit Go.RowKit Go.Proofs.YtnkeijdpjcclcaaW.PrintWords Go.Proofs.YtnkeijdpjcclcaaW.PrintLast Go.Proofs.YtnkeijdpjcclcaaW.PrintMore
theorem stO : StTy Try.prog 47 54 2 := ⟨Try.underlying47, by kernel_rfl⟩
theorem info54 : (Try.prog.info? 54).map (·.size) = some 2 := by kernel_rfl
theorem hit0 : hit ordI [] 5 = false := rfl
theorem put0 : putL [] 5 = [5] := rfl
theorem hit1 : hit ordI [5] 4 = true := by decide
theorem put1 : putL [5] 4 = [4] := by decide
theorem srt5 : Srt [5] := List.pairwise_singleton _ _
theorem rng5 : ∀ y ∈ ([5] : List Int), rng y := fun y hy => by rw [List.mem_singleton.1 hy]; unfold rng; omega
theorem srt0 : Srt [] := List.Pairwise.nil
theorem rng0 : ∀ y ∈ ([] : List Int), rng y := fun y hy => by cases hy
theorem reg_8_6 : RegOk (opsOf Try.f8 6) [[], [], [1], [0, 1, 2], [0, 1, 2, 3], [0, 1, 2, 3, 4], [0, 1, 2, 3, 4, 5], [0, 1, 2, 3, 4, 5, 6]] [] [some 44, some 45, some 46, some 47, some 48, some 49, some 50, some 51] := regOk (by kernel_rfl)
theorem reg_8_9 : RegOk (opsOf Try.f8 9) [[], [0], [0, 1], [0, 1, 2]] [] [some 58, some 59, some 60, some 7] := regOk (by kernel_rfl)
theorem reg_8_11 : RegOk (opsOf Try.f8 11) [[], [], [1], [0, 1, 2], [0, 1, 2, 3], [0, 1, 2, 3, 4], [0, 1, 2, 3, 4], [0, 1, 2, 3, 4, 5, 6], [0, 1, 2, 3, 4, 5, 6, 7], [0, 1, 2, 3, 4, 5, 6, 7, 8], [0, 1, 2, 3, 4], [0, 1, 2, 3, 4, 10], [0, 1, 2, 3, 4, 5, 6, 7, 8, 9, 10, 11], [0, 1, 2, 3, 4, 5, 6, 7, 8, 9, 10, 11, 12]] [] [some 61, some 62, some 63, some 64, some 65, some 66, some 67, some 68, some 69, some 70, some 71, some 72, some 73, some 74] := regOk (by kernel_rfl)
theorem reg_8_13 : RegOk (opsOf Try.f8 13) [[], [], [1], [0, 1, 2], [0, 1, 2, 3], [0, 1, 2, 3, 4], [0, 1, 2, 3, 4], [0, 1, 2, 3, 4, 5, 6], [0, 1, 2, 3, 4, 5, 6, 7], [0, 1, 2, 3, 4, 5, 6, 7, 8], [0, 1, 2, 3, 4], [0, 1, 2, 3, 4, 10], [0, 1, 2, 3, 4, 5, 6, 7, 8, 9, 10, 11], [0, 1, 2, 3, 4, 5, 6, 7, 8, 9, 10, 11, 12], [0, 1, 2, 3, 4, 5, 6, 7, 8, 9, 10, 11, 12, 13]] [] [some 77, some 78, some 79, some 80, some 81, some 82, some 83, some 84, some 85, some 86, some 87, some 88, some 89, some 90, some 9] := regOk (by kernel_rfl)
theorem reg_8_19 : RegOk (opsOf Try.f8 19) [[], [], [], [0, 1, 2], [0, 1, 2, 3]] [4] [some 101, some 102, some 103, some 104, none] := regOk (by kernel_rfl)
theorem reg_8_20 : RegOk (opsOf Try.f8 20) [[], [], [], [1, 2], [0, 1, 2, 3], [0, 1, 2, 3, 4]] [4, 5] [some 105, some 106, some 107, some 108, some 109, some 10] := regOk (by kernel_rfl)
theorem reg_8_21 : RegOk (opsOf Try.f8 21) [[], [], [1], [0, 1, 2], [0, 1, 2, 3]] [3, 4] [some 110, some 111, some 112, some 113, some 10] := regOk (by kernel_rfl)
theorem reg_8_22 : RegOk (opsOf Try.f8 22) [[], [], [], [1, 2], [0, 1, 2, 3], [0, 1, 2, 3, 4]] [4, 5] [some 114, some 115, some 116, some 117, some 118, some 4] := regOk (by kernel_rfl)
theorem reg_8_36 : RegOk (opsOf Try.f8 36) [[], [], [], [2], [1, 2, 3], [0, 1, 2, 3, 4], [], [], [7], [7, 8], [6, 7, 8, 9], [0, 1, 2, 3, 4, 5, 6, 7, 8, 9, 10], [0, 1, 2, 3, 4, 5, 6, 7, 8, 9, 10, 11]] [5, 11, 12] [some 187, some 188, some 189, some 190, some 191, some 192, some 193, some 194, some 195, some 196, some 197, some 198, some 4] := regOk (by kernel_rfl)
set_option maxRecDepth 20000 in
set_option maxHeartbeats 6400000 in
theorem sorts_any (A : Option Addr) (n c : Nat) (ops : List OpV) (w : World) (hl : Sts encO 2 w A n ops) (hnc : n ≤ c) (hok : ∀ z ∈ ops, okO z) :
    Calls Try.prog 8 #[.slice A n c] w fun e w' => e = .returned (.bool true) ∧ Below w.heap.size w w' := by
  have HST := Lib.hid hl
  have HLEN := Lib.hid hl.len
  have hmx := hl.max
  have C0 := Lib.hid (newI_any w)
  clear hl hok
  go_enter Try.func8, Try.ntmps8
  go_wp2_with fail
  refine C0.out.mono ?_
  rintro e w1 ⟨rfl, hp1, hso1, hb1⟩
  generalize w1.heap.size - 1 = p at hp1 hso1 ⊢
  have C1 := Lib.hid (putI_any w1 5 hso1 hb1.size (by simp) rng0 (by unfold rng; omega) (mono_srt srt0 5))
  have HB1 := Lib.hid hb1
  clear hso1 hb1 C0
  go_wp2_with fail
  refine C1.out.mono ?_
  rintro e w2 ⟨rfl, v2, hso2, hg2, ho2⟩
  rw [put0] at hso2
  rw [hit0]
  have hb2 : Below w.heap.size w w2 := ⟨hg2.os.trans HB1.out.os, hg2.tape.trans HB1.out.tape, hg2.output.trans HB1.out.output, Nat.le_trans HB1.out.size hg2.size, fun k hk => (hg2.block k (Nat.lt_of_lt_of_le hk HB1.out.size) (by omega) (by simp [Value.ownBlock])).trans (HB1.out.block k hk)⟩
  have C2 := Lib.hid (putI_any w2 4 hso2 hb2.size (by simp) rng5 (by unfold rng; omega) (mono_srt srt5 4))
  have HB2 := Lib.hid hb2
  have HO2 := Lib.hid (fun k e => ownk_base hso2.own k e)
  clear hso2 hg2 ho2 hb2 HB1 C1
  go_wp2_with fail
  refine C2.out.mono ?_
  rintro e w3 ⟨rfl, v3, hso3, hg3, ho3⟩
  rw [put1] at hso3
  rw [hit1]
  have hb3 : Below w.heap.size w w3 := ⟨hg3.os.trans HB2.out.os, hg3.tape.trans HB2.out.tape, hg3.output.trans HB2.out.output, Nat.le_trans HB2.out.size hg3.size, fun k hk => (hg3.block k (Nat.lt_of_lt_of_le hk HB2.out.size) (by omega) (fun e => by have := HO2.out k e.symm; omega)).trans (HB2.out.block k hk)⟩
  have C3 := Lib.hid (lenI_any w3 hso3)
  have HSO3 := Lib.hid hso3
  have HB3 := Lib.hid hb3
  clear hso3 hg3 ho3 hb3 HB2 HO2 C2
  go_wp2_with fail
  refine C3.out.mono ?_
  rintro e w4 ⟨rfl, hb4⟩
  have hso4 := soi_below HSO3.out hb4
  have hb4' := below_then HB3.out HB3.out.size hb4
  have C4 := Lib.hid (dropI_any w4 0 hso4 hb4'.size (by simp))
  have HB4 := Lib.hid hb4'
  have HO4 := Lib.hid (fun k e => ownk_base hso4.own k e)
  clear hb4 hso4 hb4' HSO3 HB3 C3
  rw [show (([4] : List Int).length : Nat) = 1 from rfl]
  go_wp2_with fail
  refine C4.out.mono ?_
  rintro e w5 ⟨rfl, v5, hso5, hg5, ho5⟩
  rw [show dropL [4] 0 = [] by decide] at hso5
  rw [show (atL [4] 0).2 = true by decide]
  have hb5 : Below w.heap.size w w5 := ⟨hg5.os.trans HB4.out.os, hg5.tape.trans HB4.out.tape, hg5.output.trans HB4.out.output, Nat.le_trans HB4.out.size hg5.size, fun k hk => (hg5.block k (Nat.lt_of_lt_of_le hk HB4.out.size) (by omega) (fun e => by have := HO4.out k e.symm; omega)).trans (HB4.out.block k hk)⟩
  have hb6 : Below w5.heap.size w5 (w5.alloc (.cells #[] 3)) := below_alloc (Below.refl _ _) _
  have hls : LS w p (.slice (some ⟨w5.heap.size, 0, none⟩) 0 0) v5 [] [] (w5.alloc (.cells #[] 3)) := by
    have h0 := own_lit0 (w := w5) (Nat.le_refl w5.heap.size)
    have hlt := mk_lt hso5.box
    refine ⟨below_then hb5 hb5.size hb6, soi_below hso5 hb6, ownk_lower h0 hb5.size, fun e => ?_, fun j hj e => ?_⟩
    · injection e with e
      have e : w5.heap.size = p := e
      omega
    · injection e with e
      have e : w5.heap.size = j := e
      have := ownk_lt hso5.own j hj
      omega
  have HLS0 := Lib.hid hls
  clear hso5 hg5 ho5 hb5 hb6 hls HB4 HO4 C4
  go_wp2_with fail
  go_loopw [4, 5] (fun va iv wr => ∃ (k : Nat) (v : Value) (xs : List Int), k ≤ n ∧ k ≤ 80 ∧ iv = .int .i64 k ∧ xs.length ≤ k ∧ Hid (LS w p va v xs xs wr) ∧ Hid (Srt xs) ∧ Hid (∀ y ∈ xs, rng y)) (fun _ iv _ => n - (intOf iv).toNat)
  case atStart => exact ⟨0, v5, [], by omega, by omega, rfl, Nat.le_refl _, HLS0, Lib.hid srt0, Lib.hid rng0⟩
  case round =>
    obtain ⟨k, v, xs, hkn, hk80, rfl, hxk, HLS, HSR, HRG⟩ := hrel
    obtain ⟨Aa, m, ca, eva, hmc, HLm, hmm, _⟩ := ownk_open encI_len HLS.out.own
    subst eva
    have hlm := HLm.out
    obtain ⟨DD, hDD⟩ : ∃ DD, (decide ((k : Int) < (n : Int)) && decide ((k : Int) < 80)) = DD := ⟨_, rfl⟩
    have HDD := Lib.hid hDD
    clear hDD
    go_upto_region 6 with fail
    refine plain_ (fun wq => Below wr.heap.size wr wq) (fun _ => True) reg_8_6 rfl inv0 (fun _ _ _ _ => trivial) (Below.refl _ _) trivial ?_
    refine w_move (.inl rfl) (fun vs w hK => ⟨wants_none rfl, rho_out rfl rfl⟩) ?_
    refine w_move (.inl rfl) (fun vs w hK => ⟨wants_none rfl, rho_out rfl rfl⟩) ?_
    refine w_val [(45, _)] (_) (fun vs w hK => ⟨wants_none rfl, rho_in rfl (fv (hK 1 (memE rfl))), trivial⟩) rfl (fun wq hI => by exact run_len_sl rfl Try.underlying47 rfl rfl) ?_
    refine w_val [(44, _), (46, _)] (_) (fun vs w hK => ⟨wants_none rfl, rho_in rfl (fv (hK 0 (memE rfl))), rho_in rfl (fv (hK 2 (memE rfl))), trivial⟩) rfl (fun wq hI => by exact run_int_lss rfl rfl rfl rfl) ?_
    refine w_move (.inl rfl) (fun vs w hK => ⟨wants_none rfl, rho_in rfl (fv (hK 3 (memE rfl)))⟩) ?_
    refine w_moveG (.inl rfl) (fun vs w hK => wantsT rfl (fv (hK 4 (memE rfl)))) (fun hG vs w hK => (rho_out rfl rfl)) ?_
    refine w_valG [(49, _)] (_) (fun vs w hK => wantsT rfl (fv (hK 4 (memE rfl)))) (fun hG vs w hK => ⟨(rho_in rfl (fvg (hK 5 (memE rfl)) hG)), trivial⟩) rfl (fun hG wq hI => by exact run_int_lss rfl rfl rfl rfl) ?_
    refine w_and rfl (fun vs w hK => wants_none rfl) (fun vs w hK => (rho_in rfl (fv (hK 4 (memE rfl))))) (fun hB vs w hK => (rho_in rfl (fvg (hK 6 (memE rfl)) hB))) ?_
    refine w_as (c' := .bool DD) (congrArg Value.bool HDD.out) ?_
    refine w_endM [false, false, false, false, false, false, false, true] rfl rfl rfl (fun vs wq hI hF => ?_)
    simp only [List.reverse_cons, List.reverse_nil, List.nil_append, List.cons_append, finL_val, finL_of, finL_any, finL_app, finL_new, finL_gr, finL_row, finL_box, finL_nil, Act.put, List.setIfInBounds_toArray, List.set_cons_zero, List.set_cons_succ, Nat.reduceAdd, maskF, finL_imp, Bool.not_false, Bool.not_true, Bool.true_and, Bool.false_and]
    have HLS := Lib.hid (ls_below HLS.out hI)
    clear hI hF
    obtain ⟨wr, rfl⟩ : ∃ w6 : World, w6 = wq := ⟨_, rfl⟩
    cases DD with
    | true =>
      have h := HDD.out
      rw [Bool.and_eq_true, decide_eq_true_iff, decide_eq_true_iff] at h
      have hkn2 : k < n := by omega
      have hk802 : k < 80 := by omega
      clear h HDD
      obtain ⟨ad, rfl, hc⟩ := (sts_below HST.out HLS.out.bel).row (by omega)
      obtain ⟨⟨zk, zn⟩, hp⟩ : ∃ z : OpV, ops[k]? = some z := ⟨_, List.getElem?_eq_getElem (by rw [HLEN.out]; exact hkn2)⟩
      have hcell := hc k _ hp
      clear hc hp
      go_upto_region 9 with (first
        | (refine wpList_index_st rfl 47 _ _ rfl stO rfl rfl rfl hkn2 ?_)
        | (refine wpList_load_at rfl 54 _ rfl _ [.int .i64 zk, .int .i64 zn] rfl hcell Try.underlying54 rfl info54 ?_)
        | (refine wpList_store_box rfl 54 (.tmp 6) (.tmp 57) rfl wr.heap.size [.int .i64 zk, .int .i64 zn] rfl rfl (heap_alloc_new wr _) rfl info54 rfl ?_; intro w6 hs6; have HS6 := Lib.hid hs6; clear hs6))
      have hb6 : Below wr.heap.size wr w6 := HS6.out.then_ (below_alloc (Below.refl _ _) _) (Nat.le_refl _)
      have HX6 := Lib.hid HS6.out.at_
      have HL6 := Lib.hid (ls_below HLS.out hb6)
      have hbp : p < wr.heap.size := mk_lt HLS.out.so.box
      have hbv : ∀ j, v.ownBlock = some j → j < wr.heap.size := ownk_lt HLS.out.so.own
      clear hb6 HS6 HLS hcell
      generalize wr.heap.size = b at HX6 hbp hbv ⊢
      obtain ⟨q, hq, hq256⟩ := and255 zn
      have HQ := Lib.hid hq
      clear hq
      refine plain_ (fun wq => Below w6.heap.size w6 wq) (fun _ => True) reg_8_9 rfl inv0 (fun _ _ _ _ => trivial) (Below.refl _ _) trivial ?_
      refine w_val [(6, _)] (_) (fun vs w hK => ⟨wants_none rfl, rho_out rfl rfl, trivial⟩) rfl (fun wq hI => by exact op_field rfl rfl Try.underlying54 rfl rfl rfl info3 (by decide)) ?_
      refine w_val [(58, _)] (_) (fun vs w hK => ⟨wants_none rfl, rho_in rfl (fv (hK 0 (memE rfl))), trivial⟩) rfl (fun wq hI => by exact run_load_cell (ad := ⟨b, 1, none⟩) (v := .int .i64 zn) rfl rfl rfl Try.underlying3 rfl (by have := box_stays HX6.out hI; simp [World.cell?, this])) ?_
      refine w_val [(59, _)] (_) (fun vs w hK => ⟨wants_none rfl, rho_in rfl (fv (hK 1 (memE rfl))), trivial⟩) rfl (fun wq hI => by exact op_and rfl rfl rfl HQ.out) ?_
      refine w_move (.inr rfl) (fun vs w hK => ⟨wants_none rfl, rho_in rfl (fv (hK 2 (memE rfl)))⟩) ?_
      refine w_end rfl rfl rfl (fun vs wq hI hF => ?_)
      simp only [List.reverse_cons, List.reverse_nil, List.nil_append, List.cons_append, finL_val, finL_of, finL_any, finL_app, finL_new, finL_gr, finL_row, finL_box, finL_nil, Act.put, List.setIfInBounds_toArray, List.set_cons_zero, List.set_cons_succ, Nat.reduceAdd]
      have HX7 := Lib.hid (box_stays HX6.out hI)
      have HL7 := Lib.hid (ls_below HL6.out hI)
      clear hI hF HX6 HL6 HQ
      obtain ⟨w7, rfl⟩ : ∃ w7 : World, w7 = wq := ⟨_, rfl⟩
      have hrq : rng (q : Int) := by unfold rng; omega
      have HMO := Lib.hid (mono_srt HSR.out (q : Int))
      have HTQ := Lib.hid (tdiv3 (a := (q : Int)) (by omega))
      have HTX : Hid (∀ y ∈ xs, IntKind.i64.wrap (Int.tdiv y 3) = Int.tdiv y 3) := Lib.hid fun y hy => tdiv3 (by have := HRG.out y hy; unfold rng at this; omega)
      go_wp2_with fail
      go_loopw [8] (fun jv wr => ∃ j : Nat, j ≤ m ∧ jv = .int .i64 j ∧ Hid (∀ (i : Nat) (y : Int), i < j → xs[i]? = some y → ordI y (q : Int) < 0) ∧ Hid (Below w7.heap.size w7 wr)) (fun jv _ => m - (intOf jv).toNat)
      case atStart => exact ⟨0, by omega, rfl, Lib.hid (fun i y hi => absurd hi (by omega)), Lib.hid (Below.refl _ _)⟩
      case round =>
        obtain ⟨j, hjm, rfl, HJ, HW⟩ := hrel
        have HL8 := Lib.hid (ls_below HL7.out HW.out)
        have HSA : Hid (Sts encI kI wr Aa m xs) := Lib.hid (by
          obtain ⟨A', n', c', e1, _, HL', _, hs'⟩ := ownk_open encI_len HL8.out.own
          injection e1 with e1 e2 e3
          subst e1 e2 e3
          exact hs')
        obtain ⟨D, hD⟩ : ∃ D, (decide ((j : Int) < (m : Int)) && decide (Int.tdiv (xs.getD j 0) 3 < Int.tdiv (q : Int) 3)) = D := ⟨_, rfl⟩
        have HD := Lib.hid hD
        clear hD
        have hgd : ∀ i, i < m → xs[i]? = some (xs.getD i 0) := fun i hi => by rw [List.getD_eq_getElem?_getD, List.getElem?_eq_getElem (by omega)]; rfl
        have HGD := Lib.hid hgd
        clear hgd
        go_upto_region 11 with fail
        refine plain_ (fun wq => Below wr.heap.size wr wq) (fun _ => True) reg_8_11 rfl inv0 (fun _ _ _ _ => trivial) (Below.refl _ _) trivial ?_
        refine w_move (.inl rfl) (fun vs w hK => ⟨wants_none rfl, rho_out rfl rfl⟩) ?_
        refine w_move (.inl rfl) (fun vs w hK => ⟨wants_none rfl, rho_out rfl rfl⟩) ?_
        refine w_val [(62, _)] (_) (fun vs w hK => ⟨wants_none rfl, rho_in rfl (fv (hK 1 (memE rfl))), trivial⟩) rfl (fun wq hI => by exact run_len_sl rfl Try.underlying34 rfl rfl) ?_
        refine w_val [(61, _), (63, _)] (_) (fun vs w hK => ⟨wants_none rfl, rho_in rfl (fv (hK 0 (memE rfl))), rho_in rfl (fv (hK 2 (memE rfl))), trivial⟩) rfl (fun wq hI => by exact run_int_lss rfl rfl rfl rfl) ?_
        refine w_move (.inl rfl) (fun vs w hK => ⟨wants_none rfl, rho_in rfl (fv (hK 3 (memE rfl)))⟩) ?_
        refine w_moveG (.inl rfl) (fun vs w hK => wantsT rfl (fv (hK 4 (memE rfl)))) (fun hG vs w hK => (rho_out rfl rfl)) ?_
        refine w_moveG (.inl rfl) (fun vs w hK => wantsT rfl (fv (hK 4 (memE rfl)))) (fun hG vs w hK => (rho_out rfl rfl)) ?_
        refine w_valG [(66, _), (67, _)] (.pointer (Aa.map (·.add (j * kI)))) (fun vs w hK => wantsT rfl (fv (hK 4 (memE rfl)))) (fun hG vs w hK => ⟨(rho_in rfl (fvg (hK 5 (memE rfl)) hG)), (rho_in rfl (fvg (hK 6 (memE rfl)) hG)), trivial⟩) rfl (fun hG wq hI => by (have hlt := of_decide_eq_true hG; obtain ⟨ad, e, _⟩ := HSA.out.row (by omega); subst e; exact op_index_st stI rfl rfl rfl rfl (by omega))) ?_
        refine w_valG [(68, _)] (.int .i64 (xs.getD j 0)) (fun vs w hK => wantsT rfl (fv (hK 4 (memE rfl)))) (fun hG vs w hK => ⟨(rho_in rfl (fvg (hK 7 (memE rfl)) hG)), trivial⟩) rfl (fun hG wq hI => by (have hlt := of_decide_eq_true hG; obtain ⟨ad, e, hc⟩ := (sts_below HSA.out hI).row (by omega); subst e; have h := hc j _ (HGD.out j (by omega)) 0 _ rfl; rw [Addr.add_add, Nat.add_zero] at h; exact run_load_cell rfl rfl rfl Try.underlying3 rfl h)) ?_
        refine w_valG [(69, _)] (_) (fun vs w hK => wantsT rfl (fv (hK 4 (memE rfl)))) (fun hG vs w hK => ⟨(rho_in rfl (fvg (hK 8 (memE rfl)) hG)), trivial⟩) rfl (fun hG wq hI => by (have hlt := of_decide_eq_true hG; exact op_quo rfl rfl rfl (by decide) (HTX.out _ (List.mem_of_getElem? (HGD.out j (by omega)))))) ?_
        refine w_moveG (.inl rfl) (fun vs w hK => wantsT rfl (fv (hK 4 (memE rfl)))) (fun hG vs w hK => (rho_out rfl rfl)) ?_
        refine w_valG [(71, _)] (_) (fun vs w hK => wantsT rfl (fv (hK 4 (memE rfl)))) (fun hG vs w hK => ⟨(rho_in rfl (fvg (hK 10 (memE rfl)) hG)), trivial⟩) rfl (fun hG wq hI => by exact op_quo rfl rfl rfl (by decide) HTQ.out) ?_
        refine w_valG [(70, _), (72, _)] (_) (fun vs w hK => wantsT rfl (fv (hK 4 (memE rfl)))) (fun hG vs w hK => ⟨(rho_in rfl (fvg (hK 9 (memE rfl)) hG)), (rho_in rfl (fvg (hK 11 (memE rfl)) hG)), trivial⟩) rfl (fun hG wq hI => by exact run_int_lss rfl rfl rfl rfl) ?_
        refine w_and rfl (fun vs w hK => wants_none rfl) (fun vs w hK => (rho_in rfl (fv (hK 4 (memE rfl))))) (fun hB vs w hK => (rho_in rfl (fvg (hK 12 (memE rfl)) hB))) ?_
        refine w_as (c' := .bool D) (congrArg Value.bool HD.out) ?_
        refine w_endM [false, false, false, false, false, false, false, false, false, false, false, false, false, true] rfl rfl rfl (fun vs wq hI hF => ?_)
        simp only [List.reverse_cons, List.reverse_nil, List.nil_append, List.cons_append, finL_val, finL_of, finL_any, finL_app, finL_new, finL_gr, finL_row, finL_box, finL_nil, Act.put, List.setIfInBounds_toArray, List.set_cons_zero, List.set_cons_succ, Nat.reduceAdd, maskF, finL_imp, Bool.not_false, Bool.not_true, Bool.true_and, Bool.false_and]
        have HW2 := Lib.hid (below_then HW.out HW.out.size hI)
        clear hI hF HW HSA HL8
        cases D with
        | true =>
          have h := HD.out
          rw [Bool.and_eq_true, decide_eq_true_iff, decide_eq_true_iff] at h
          have hjlt : j < m := by omega
          have HJ2 : Hid (∀ (i : Nat) (y : Int), i < j + 1 → xs[i]? = some y → ordI y (q : Int) < 0) := Lib.hid fun i y hi hy => by
            rcases Nat.lt_or_ge i j with g | g
            · exact HJ.out i y g hy
            · obtain rfl : i = j := by omega
              rw [HGD.out i (by omega)] at hy
              injection hy with hy
              rw [← hy, ord_neg]
              exact h.2
          clear HJ HD h
          go_wp2_with fail
          go_roundw
          case rel => exact ⟨j + 1, by omega, by go_num, HJ2, HW2⟩
          case measure => simp [intOf]; omega
        | false =>
          have hpos : pos ordI xs (q : Int) = j := pos_of ordI (by omega) HJ.out (fun y hy => by
            have hjl := (List.getElem?_eq_some_iff.1 hy).1
            have h := HD.out
            rw [decide_eq_true (by omega), Bool.true_and, decide_eq_false_iff_not] at h
            rw [HGD.out j (by omega)] at hy
            injection hy with hy
            rw [← hy, ord_neg]
            exact h)
          have HPO := Lib.hid hpos
          obtain ⟨T, hT⟩ : ∃ T, hit ordI xs (q : Int) = T := ⟨_, rfl⟩
          have HT : Hid ((decide ((j : Int) < (m : Int)) && (Int.tdiv (xs.getD j 0) 3 == Int.tdiv (q : Int) 3)) = T) := Lib.hid (by
            rw [← hT]
            unfold hit
            rw [hpos]
            rcases Nat.lt_or_ge j m with g | g
            · rw [HGD.out j g, decide_eq_true (by omega), Bool.true_and, Bool.eq_iff_iff, beq_iff_eq, beq_iff_eq, ord_zero]
            · rw [List.getElem?_eq_none (by omega), decide_eq_false (by omega), Bool.false_and])
          have HHT := Lib.hid hT
          obtain ⟨w8, rfl⟩ : ∃ w8 : World, w8 = wq := ⟨_, rfl⟩
          have HL9 := Lib.hid (ls_below HL7.out HW2.out)
          have HX9 := Lib.hid (box_stays HX7.out HW2.out)
          have HSA : Hid (Sts encI kI w8 Aa m xs) := Lib.hid (by
            obtain ⟨A', n', c', e1, _, HL', _, hs'⟩ := ownk_open encI_len HL9.out.own
            injection e1 with e1 e2 e3
            subst e1 e2 e3
            exact hs')
          clear HD hpos hT HJ HW2 HL7 HX7
          go_upto_region 13 with fail
          refine plain_ (fun wq => Below w8.heap.size w8 wq) (fun _ => True) reg_8_13 rfl inv0 (fun _ _ _ _ => trivial) (Below.refl _ _) trivial ?_
          refine w_move (.inl rfl) (fun vs w hK => ⟨wants_none rfl, rho_out rfl rfl⟩) ?_
          refine w_move (.inl rfl) (fun vs w hK => ⟨wants_none rfl, rho_out rfl rfl⟩) ?_
          refine w_val [(78, _)] (_) (fun vs w hK => ⟨wants_none rfl, rho_in rfl (fv (hK 1 (memE rfl))), trivial⟩) rfl (fun wq hI => by exact run_len_sl rfl Try.underlying34 rfl rfl) ?_
          refine w_val [(77, _), (79, _)] (_) (fun vs w hK => ⟨wants_none rfl, rho_in rfl (fv (hK 0 (memE rfl))), rho_in rfl (fv (hK 2 (memE rfl))), trivial⟩) rfl (fun wq hI => by exact run_int_lss rfl rfl rfl rfl) ?_
          refine w_move (.inl rfl) (fun vs w hK => ⟨wants_none rfl, rho_in rfl (fv (hK 3 (memE rfl)))⟩) ?_
          refine w_moveG (.inl rfl) (fun vs w hK => wantsT rfl (fv (hK 4 (memE rfl)))) (fun hG vs w hK => (rho_out rfl rfl)) ?_
          refine w_moveG (.inl rfl) (fun vs w hK => wantsT rfl (fv (hK 4 (memE rfl)))) (fun hG vs w hK => (rho_out rfl rfl)) ?_
          refine w_valG [(82, _), (83, _)] (.pointer (Aa.map (·.add (j * kI)))) (fun vs w hK => wantsT rfl (fv (hK 4 (memE rfl)))) (fun hG vs w hK => ⟨(rho_in rfl (fvg (hK 5 (memE rfl)) hG)), (rho_in rfl (fvg (hK 6 (memE rfl)) hG)), trivial⟩) rfl (fun hG wq hI => by (have hlt := of_decide_eq_true hG; obtain ⟨ad, e, _⟩ := HSA.out.row (by omega); subst e; exact op_index_st stI rfl rfl rfl rfl (by omega))) ?_
          refine w_valG [(84, _)] (.int .i64 (xs.getD j 0)) (fun vs w hK => wantsT rfl (fv (hK 4 (memE rfl)))) (fun hG vs w hK => ⟨(rho_in rfl (fvg (hK 7 (memE rfl)) hG)), trivial⟩) rfl (fun hG wq hI => by (have hlt := of_decide_eq_true hG; obtain ⟨ad, e, hc⟩ := (sts_below HSA.out hI).row (by omega); subst e; have h := hc j _ (HGD.out j (by omega)) 0 _ rfl; rw [Addr.add_add, Nat.add_zero] at h; exact run_load_cell rfl rfl rfl Try.underlying3 rfl h)) ?_
          refine w_valG [(85, _)] (_) (fun vs w hK => wantsT rfl (fv (hK 4 (memE rfl)))) (fun hG vs w hK => ⟨(rho_in rfl (fvg (hK 8 (memE rfl)) hG)), trivial⟩) rfl (fun hG wq hI => by (have hlt := of_decide_eq_true hG; exact op_quo rfl rfl rfl (by decide) (HTX.out _ (List.mem_of_getElem? (HGD.out j (by omega)))))) ?_
          refine w_moveG (.inl rfl) (fun vs w hK => wantsT rfl (fv (hK 4 (memE rfl)))) (fun hG vs w hK => (rho_out rfl rfl)) ?_
          refine w_valG [(87, _)] (_) (fun vs w hK => wantsT rfl (fv (hK 4 (memE rfl)))) (fun hG vs w hK => ⟨(rho_in rfl (fvg (hK 10 (memE rfl)) hG)), trivial⟩) rfl (fun hG wq hI => by exact op_quo rfl rfl rfl (by decide) HTQ.out) ?_
          refine w_valG [(86, _), (88, _)] (_) (fun vs w hK => wantsT rfl (fv (hK 4 (memE rfl)))) (fun hG vs w hK => ⟨(rho_in rfl (fvg (hK 9 (memE rfl)) hG)), (rho_in rfl (fvg (hK 11 (memE rfl)) hG)), trivial⟩) rfl (fun hG wq hI => by exact run_int_eql rfl rfl rfl rfl) ?_
          refine w_and rfl (fun vs w hK => wants_none rfl) (fun vs w hK => (rho_in rfl (fv (hK 4 (memE rfl))))) (fun hB vs w hK => (rho_in rfl (fvg (hK 12 (memE rfl)) hB))) ?_
          refine w_as (c' := .bool T) (congrArg Value.bool HT.out) ?_
          refine w_move (.inr rfl) (fun vs w hK => ⟨wants_none rfl, rho_in rfl (fv (hK 13 (memE rfl)))⟩) ?_
          refine w_endM [false, false, false, false, false, false, false, false, false, false, false, false, false, false, true] rfl rfl rfl (fun vs wq hI hF => ?_)
          simp only [List.reverse_cons, List.reverse_nil, List.nil_append, List.cons_append, finL_val, finL_of, finL_any, finL_app, finL_new, finL_gr, finL_row, finL_box, finL_nil, Act.put, List.setIfInBounds_toArray, List.set_cons_zero, List.set_cons_succ, Nat.reduceAdd, maskF, finL_imp, Bool.not_false, Bool.not_true, Bool.true_and, Bool.false_and]
          have HLA := Lib.hid (ls_below HL9.out hI)
          have hbx := box_stays HX9.out hI
          have hcb0 : wq.cell? ⟨b, 0, none⟩ = some (.int .i64 zk) := by simp [World.cell?, hbx]
          have hcb1 : wq.cell? ⟨b, 1, none⟩ = some (.int .i64 zn) := by simp [World.cell?, hbx]
          have HBX := Lib.hid hbx
          have HC1 := Lib.hid hcb1
          have HSB := Lib.hid (sts_below HSA.out hI)
          obtain ⟨wa, rfl⟩ : ∃ wa : World, wa = wq := ⟨_, rfl⟩
          clear hI hF HL9 HX9 HSA HT HTQ HTX hbx hcb1
          by_cases hk0 : zk = 0
          · subst hk0
            have cp := putI_any wa (q : Int) HLA.out.so HLA.out.bel.size (by omega) HRG.out hrq HMO.out
            rw [HHT.out] at cp
            have CP := Lib.hid cp
            clear cp
            go_wp2_with fail
            refine CP.out.mono ?_
            rintro e wb ⟨rfl, v', hso, hg, ho⟩
            have HLB := Lib.hid (ls_so HLA.out hso hg ho)
            have hpq : putL xs (q : Int) = if T = true then xs.set j (q : Int) else xs.take j ++ [(q : Int)] ++ xs.drop j := by unfold putL; rw [HHT.out, HPO.out]
            have HPQ := Lib.hid hpq
            clear hso hg ho CP hpq hcb0 HBX HC1 HSB HLA
            cases T with
            | true =>
              have hjm2 : j < m := by
                obtain ⟨y, hy, _⟩ := hit_some HHT.out
                rw [HPO.out] at hy
                have := (List.getElem?_eq_some_iff.1 hy).1
                omega
              obtain ⟨g, cap, cur, e1, hBg, hgc, hnc2, hcm, hcl, hct⟩ := own_block HLB.out.own (by omega)
              rw [hlm] at e1 hct hnc2
              injection e1 with e1 e2 e3
              subst e1 e3
              have HG := Lib.hid hgc
              have HCT := Lib.hid hct
              have HCL := Lib.hid hcl
              have hpc : j * kI < cur.length := by
                rw [hcl]
                exact Nat.mul_lt_mul_of_pos_right (by omega) (by decide)
              clear hgc hct hcl
              go_upto_region 19 with fail
              refine plain_ (fun _ => True) (fun W => LS w p (.slice (some ⟨g, 0, none⟩) m ca) v' (putL xs (q : Int)) xs W ∧ W.heap[g]? = some (.cells cur.toArray 3 (0, 0))) reg_8_19 rfl (fun _ _ _ _ => trivial) (fun _ _ h k => ⟨ls_below h.1 k, box_stays h.2 k⟩) trivial ⟨HLB.out, HG.out⟩ ?_
              refine w_move (.inl rfl) (fun vs w hK => ⟨wants_none rfl, rho_out rfl rfl⟩) ?_
              refine w_move (.inl rfl) (fun vs w hK => ⟨wants_none rfl, rho_out rfl rfl⟩) ?_
              refine w_move (.inl rfl) (fun vs w hK => ⟨wants_none rfl, rho_out rfl rfl⟩) ?_
              refine w_val [(101, _), (102, _)] (.pointer (some ⟨g, j * kI, none⟩)) (fun vs w hK => ⟨wants_none rfl, rho_in rfl (fv (hK 0 (memE rfl))), rho_in rfl (fv (hK 1 (memE rfl))), trivial⟩) rfl (fun wq hI => by (have h := op_index_st (P := Try.prog) (l := [(101, .slice (some ⟨g, 0, none⟩) m ca), (102, .int .i64 (j : Nat))]) (o := { dst := some 104, op := Op.indexAddr 34 (Operand.tmp 101) (Operand.tmp 102), type := 0, pos := "", after := #[], guard := none }) (w := wq) stI rfl rfl rfl rfl hjm2; rw [Go.Proofs.YtnkeijdpjcclcaaW.PrintWords.add_plain] at h; exact h)) ?_
              refine w_lin (FW.of (fun _ W => LS w p (.slice (some ⟨g, 0, none⟩) m ca) v' (putL xs (q : Int)) (putL xs (q : Int)) W) (fun _ _ _ h hb => ls_below h hb)) (by decide) (fun vs wq hI hJ hK => ?_) ?_
              · obtain ⟨hA, hA2⟩ := hJ (by decide) (by decide)
                exact ob_store_blk [(104, .pointer (some ⟨g, j * kI, none⟩)), (103, .int .i64 (q : Nat))] (wants_none rfl) ⟨rho_in rfl (fv (hK 3 (memE rfl))), rho_in rfl (fv (hK 2 (memE rfl))), trivial⟩ rfl rfl rfl rfl rfl hA2 hpc info3 (fun w' hs => ⟨trivial, ls_set hA rfl hs (by
                  have hcur : cur = xs.flatMap encI ++ cur.drop (m * kI) := by rw [← HCT.out, List.take_append_drop]
                  have hfl : (xs.flatMap encI).length = m * kI := by rw [flat_length encI_len, hlm]
                  have hset : cur.set (j * kI) (.int .i64 (q : Nat)) = (xs.set j (q : Int)).flatMap encI ++ cur.drop (m * kI) := by
                    conv => lhs; rw [hcur]
                    rw [List.set_append_left _ _ (by rw [hfl]; exact Nat.mul_lt_mul_of_pos_right hjm2 (by decide)), ← flat_set]
                  have h := own_cells (enc := encI) (k := kI) (e := 3) (W := w') (g := g) (cap := ca) (B := w.heap.size) (ys := xs.set j (q : Int)) (R := cur.drop (m * kI)) encI_len (by rw [← hset]; exact hs.at_) (by rw [← hset, List.length_set, HCL.out]) (by rw [List.length_set]; omega) hcm hBg
                  rw [List.length_set, hlm] at h
                  rw [HPQ.out]
                  simp only [if_true]
                  exact h)⟩)
              refine w_end rfl rfl rfl (fun vs wq hI hF => ?_)
              simp only [List.reverse_cons, List.reverse_nil, List.nil_append, List.cons_append, finL_val, finL_of, finL_any, finL_app, finL_new, finL_gr, finL_row, finL_box, finL_nil, Act.put, List.setIfInBounds_toArray, List.set_cons_zero, List.set_cons_succ, Nat.reduceAdd]
              have HLC : Hid (LS w p (.slice (some ⟨g, 0, none⟩) m ca) v' (putL xs (q : Int)) (putL xs (q : Int)) wq) := Lib.hid (hF 4 (by decide) rfl)
              clear hI hF HLB HG HCT HCL
              obtain ⟨wc, rfl⟩ : ∃ wc : World, wc = wq := ⟨_, rfl⟩
              obtain ⟨Az, nz, cz, ez, _, HLz, _, _⟩ := ownk_open encI_len HLC.out.own
              try rw [ez]
              have hlsz := HLC.out
              rw [ez] at hlsz
              have HLZ := Lib.hid hlsz
              have cl := lenI_any wc hlsz.so
              rw [HLz.out] at cl
              have CL := Lib.hid cl
              have hlz : nz ≤ k + 1 := by rw [← HLz.out]; exact (by have := len_put xs (q : Int); omega)
              clear cl hlsz HLC
              go_wp2_with fail
              refine CL.out.mono ?_
              rintro e wz ⟨rfl, hbz⟩
              have HLT := Lib.hid (ls_below HLZ.out hbz)
              clear hbz CL HLZ
              go_wp2_with fail
              go_roundw
              case rel => exact ⟨k + 1, _, _, by omega, by omega, by go_num, by rw [HLz.out]; exact hlz, HLT, Lib.hid (srt_put HSR.out (q : Int)), Lib.hid (rng_put HRG.out hrq)⟩
              case measure => simp [intOf]; omega
            | false =>
              rw [if_neg (by decide)] at HPQ
              have HCUTH := Lib.hid (cut_hi stI Aa m ca j (by omega) .i64 (j : Int) rfl)
              obtain ⟨A5, hcut, hcs⟩ := cut_stM stI encI Aa m ca j hjm hmc .i64 (j : Int) rfl
              have HCUTL := Lib.hid hcut
              have HCS := Lib.hid hcs
              have HSB : Hid (Sts encI kI wb Aa m xs) := Lib.hid (by
                obtain ⟨A', n', c', e1, _, HL', _, hs'⟩ := ownk_open encI_len HLB.out.own
                injection e1 with e1 e2 e3
                subst e1 e2 e3
                exact hs')
              clear hcut hcs
              go_upto_region 20 with fail
              refine plain_ (fun W => Below wb.heap.size wb W) (fun _ => True) reg_8_20 rfl inv0 (fun _ _ _ _ => trivial) (Below.refl _ _) trivial ?_
              refine w_any (FW.of (fun v W => OwnK encI kI 3 W wb.heap.size v []) (fun _ _ _ h hb => ownk_below h hb)) (by decide) (fun vs wq hI hK => ?_) ?_
              · exact ob_run [] (wants_none rfl) trivial rfl (op_lit0 etI rfl) ⟨below_alloc (Below.refl _ _) _, own_lit0 hI.size⟩
              refine w_move (.inl rfl) (fun vs w hK => ⟨wants_none rfl, rho_out rfl rfl⟩) ?_
              refine w_move (.inl rfl) (fun vs w hK => ⟨wants_none rfl, rho_out rfl rfl⟩) ?_
              refine w_val [(106, _), (107, _)] (_) (fun vs w hK => ⟨wants_none rfl, rho_in rfl (fv (hK 1 (memE rfl))), rho_in rfl (fv (hK 2 (memE rfl))), trivial⟩) rfl (fun wq hI => by exact run_slice_op rfl rfl (HCUTH.out wq)) ?_
              refine w_lin (FW.of (fun v W => OwnK encI kI 3 W wb.heap.size v (xs.take j)) (fun _ _ _ h hb => ownk_below h hb)) (by decide) (fun vs wq hI hJ hK => ?_) ?_
              · have hA : OwnK encI kI 3 wq wb.heap.size (vs 0) [] := hK 0 (memE rfl)
                obtain ⟨v1, w9, hrun, k1, k2⟩ := ownk_runA (c := ca) encI_len encI_one etI 34 hA (sts_take (sts_below HSB.out hI) j hjm) hI.size (by simp; omega) (by simp; omega)
                rw [List.nil_append] at k1
                exact ob_run [(105, _), (108, _)] (wants_none rfl) ⟨rho_in rfl rfl, rho_in rfl (fv (hK 3 (memE rfl))), trivial⟩ rfl (run_append_op rfl rfl rfl hrun) ⟨hI.grown k2.grown hI.size (ownk_base hA), k1⟩
              refine w_lin (FW.of (fun v W => OwnK encI kI 3 W wb.heap.size v (xs.take j)) (fun _ _ _ h hb => ownk_below h hb)) (by decide) (fun vs wq hI hJ hK => ?_) ?_
              · exact ob_copy (.inr rfl) (wants_none rfl) (rho_in rfl rfl) ⟨hI, hK 4 (memE rfl)⟩
              refine w_end rfl rfl rfl (fun vs wq hI hF => ?_)
              simp only [List.reverse_cons, List.reverse_nil, List.nil_append, List.cons_append, finL_val, finL_of, finL_any, finL_app, finL_new, finL_gr, finL_row, finL_box, finL_nil, Act.put, List.setIfInBounds_toArray, List.set_cons_zero, List.set_cons_succ, Nat.reduceAdd]
              have h5 : OwnK encI kI 3 wq wb.heap.size (vs 5) (xs.take j) := hF 5 (by decide) rfl
              obtain ⟨A6, n6, c6, e5, _, HL6', _, _⟩ := ownk_open encI_len h5
              rw [e5] at h5 ⊢
              have HV5 := Lib.hid h5
              have HW5 := Lib.hid hI
              clear hI hF h5 e5 HCUTH
              obtain ⟨wc, rfl⟩ : ∃ wc : World, wc = wq := ⟨_, rfl⟩
              go_upto_region 21 with fail
              refine plain_ (fun W => Below wb.heap.size wb W) (fun W => OwnK encI kI 3 W wb.heap.size (.slice A6 n6 c6) (xs.take j)) reg_8_21 rfl inv0 (fun _ _ h k => ownk_below h k) HW5.out HV5.out ?_
              refine w_move (.inl rfl) (fun vs w hK => ⟨wants_none rfl, rho_out rfl rfl⟩) ?_
              refine w_move (.inl rfl) (fun vs w hK => ⟨wants_none rfl, rho_out rfl rfl⟩) ?_
              refine w_any (FW.of (fun v' W => ∃ b, v' = .slice (some ⟨b, 0, none⟩) 1 1 ∧ W.heap[b]? = some (.cells (encI (q : Int)).toArray 3 (0, 0))) (fun _ _ _ h hb => h.elim fun b h => ⟨b, h.1, box_stays h.2 hb⟩)) (by decide) (fun vs wq hI hK => ?_) ?_
              · exact ob_run [(111, .int .i64 (q : Nat))] (wants_none rfl) ⟨rho_in rfl (fv (hK 1 (memE rfl))), trivial⟩ rfl (op_lit1v (v := .int .i64 (q : Nat)) (cs := encI (q : Int)) etI (by decide) rfl rfl (fillI (q : Int))) ⟨below_alloc (Below.refl _ _) _, _, rfl, heap_alloc_new _ _⟩
              refine w_lin (FW.of (fun v W => OwnK encI kI 3 W wb.heap.size v (xs.take j ++ [(q : Int)])) (fun _ _ _ h hb => ownk_below h hb)) (by decide) (fun vs wq hI hJ hK => ?_) ?_
              · have hA := hJ (by decide) (by decide)
                obtain ⟨b2, e2, hc2⟩ : ∃ b, vs 2 = .slice (some ⟨b, 0, none⟩) 1 1 ∧ wq.heap[b]? = some (.cells (encI (q : Int)).toArray 3 (0, 0)) := hK 2 (memE rfl)
                obtain ⟨v1, w9, hrun, k1, k2⟩ := ownk_run (ys := [(q : Int)]) (c := 1) encI_len encI_one etI 34 hA (sts_one encI_len rfl hc2) hI.size (by rw [List.length_take]; omega) (by rw [List.length_take]; omega)
                exact ob_run [(110, _), (112, .slice (some ⟨b2, 0, none⟩) 1 1)] (wants_none rfl) ⟨rho_in rfl (fv (hK 0 (memE rfl))), rho_in rfl e2, trivial⟩ rfl (run_append_op rfl rfl rfl hrun) ⟨hI.grown k2.grown hI.size (ownk_base hA), k1⟩
              refine w_lin (FW.of (fun v W => OwnK encI kI 3 W wb.heap.size v (xs.take j ++ [(q : Int)])) (fun _ _ _ h hb => ownk_below h hb)) (by decide) (fun vs wq hI hJ hK => ?_) ?_
              · exact ob_copy (.inr rfl) (wants_none rfl) (rho_in rfl rfl) ⟨hI, hK 3 (memE rfl)⟩
              refine w_end rfl rfl rfl (fun vs wq hI hF => ?_)
              simp only [List.reverse_cons, List.reverse_nil, List.nil_append, List.cons_append, finL_val, finL_of, finL_any, finL_app, finL_new, finL_gr, finL_row, finL_box, finL_nil, Act.put, List.setIfInBounds_toArray, List.set_cons_zero, List.set_cons_succ, Nat.reduceAdd]
              have h6 : OwnK encI kI 3 wq wb.heap.size (vs 4) (xs.take j ++ [(q : Int)]) := hF 4 (by decide) rfl
              obtain ⟨A7, n7, c7, e5, _, HL7', _, _⟩ := ownk_open encI_len h6
              rw [e5] at h6 ⊢
              have HV6 := Lib.hid h6
              have HW6 := Lib.hid hI
              clear hI hF h6 e5 HV5 HW5
              obtain ⟨wd, rfl⟩ : ∃ wd : World, wd = wq := ⟨_, rfl⟩
              go_upto_region 22 with fail
              refine plain_ (fun W => Below wb.heap.size wb W) (fun W => OwnK encI kI 3 W wb.heap.size (.slice A7 n7 c7) (xs.take j ++ [(q : Int)])) reg_8_22 rfl inv0 (fun _ _ h k => ownk_below h k) HW6.out HV6.out ?_
              refine w_move (.inl rfl) (fun vs w hK => ⟨wants_none rfl, rho_out rfl rfl⟩) ?_
              refine w_move (.inl rfl) (fun vs w hK => ⟨wants_none rfl, rho_out rfl rfl⟩) ?_
              refine w_move (.inl rfl) (fun vs w hK => ⟨wants_none rfl, rho_out rfl rfl⟩) ?_
              refine w_val [(115, _), (116, _)] (_) (fun vs w hK => ⟨wants_none rfl, rho_in rfl (fv (hK 1 (memE rfl))), rho_in rfl (fv (hK 2 (memE rfl))), trivial⟩) rfl (fun wq hI => by exact run_slice_op rfl rfl (HCUTL.out wq)) ?_
              refine w_lin (FW.of (fun v W => OwnK encI kI 3 W wb.heap.size v (putL xs (q : Int))) (fun _ _ _ h hb => ownk_below h hb)) (by decide) (fun vs wq hI hJ hK => ?_) ?_
              · have hA := hJ (by decide) (by decide)
                obtain ⟨v1, w9, hrun, k1, k2⟩ := ownk_runA (c := ca - j) encI_len encI_one etI 34 hA (HCS.out wq xs (sts_below HSB.out hI)) hI.size (by simp only [List.length_append, List.length_take, List.length_singleton]; omega) (by simp only [List.length_append, List.length_take, List.length_singleton]; omega)
                rw [← HPQ.out] at k1
                exact ob_run [(114, _), (117, _)] (wants_none rfl) ⟨rho_in rfl (fv (hK 0 (memE rfl))), rho_in rfl (fv (hK 3 (memE rfl))), trivial⟩ rfl (run_append_op rfl rfl rfl hrun) ⟨hI.grown k2.grown hI.size (ownk_base hA), k1⟩
              refine w_lin (FW.of (fun v W => OwnK encI kI 3 W wb.heap.size v (putL xs (q : Int))) (fun _ _ _ h hb => ownk_below h hb)) (by decide) (fun vs wq hI hJ hK => ?_) ?_
              · exact ob_copy (.inr rfl) (wants_none rfl) (rho_in rfl rfl) ⟨hI, hK 4 (memE rfl)⟩
              refine w_end rfl rfl rfl (fun vs wq hI hF => ?_)
              simp only [List.reverse_cons, List.reverse_nil, List.nil_append, List.cons_append, finL_val, finL_of, finL_any, finL_app, finL_new, finL_gr, finL_row, finL_box, finL_nil, Act.put, List.setIfInBounds_toArray, List.set_cons_zero, List.set_cons_succ, Nat.reduceAdd]
              have h7 : OwnK encI kI 3 wq wb.heap.size (vs 5) (putL xs (q : Int)) := hF 5 (by decide) rfl
              have HLC := Lib.hid (ls_new HLB.out hI h7)
              clear hI hF h7 HLB HV6 HW6 HSB HCS HCUTL
              obtain ⟨wc, rfl⟩ : ∃ wc : World, wc = wq := ⟨_, rfl⟩
              obtain ⟨Az, nz, cz, ez, _, HLz, _, _⟩ := ownk_open encI_len HLC.out.own
              try rw [ez]
              have hlsz := HLC.out
              rw [ez] at hlsz
              have HLZ := Lib.hid hlsz
              have cl := lenI_any wc hlsz.so
              rw [HLz.out] at cl
              have CL := Lib.hid cl
              have hlz : nz ≤ k + 1 := by rw [← HLz.out]; exact (by have := len_put xs (q : Int); omega)
              clear cl hlsz HLC
              go_wp2_with fail
              refine CL.out.mono ?_
              rintro e wz ⟨rfl, hbz⟩
              have HLT := Lib.hid (ls_below HLZ.out hbz)
              clear hbz CL HLZ
              go_wp2_with fail
              go_roundw
              case rel => exact ⟨k + 1, _, _, by omega, by omega, by go_num, by rw [HLz.out]; exact hlz, HLT, Lib.hid (srt_put HSR.out (q : Int)), Lib.hid (rng_put HRG.out hrq)⟩
              case measure => simp [intOf]; omega
          by_cases hk1 : zk = 1
          · subst hk1
            have cs := seekI_any wa (q : Int) HLA.out.so (by omega) HRG.out hrq HMO.out
            rw [HPO.out] at cs
            have CS := Lib.hid cs
            clear cs hk0
            go_wp2_with fail
            refine CS.out.mono ?_
            rintro e wb ⟨rfl, hbb⟩
            have HLB := Lib.hid (ls_below HLA.out hbb)
            clear hbb CS hcb0 HBX HC1 HSB HLA
            obtain ⟨Az, nz, cz, ez, _, HLz, _, _⟩ := ownk_open encI_len HLB.out.own
            try rw [ez]
            have hlsz := HLB.out
            rw [ez] at hlsz
            have HLZ := Lib.hid hlsz
            have cl := lenI_any wb hlsz.so
            rw [HLz.out] at cl
            have CL := Lib.hid cl
            have hlz : nz ≤ k + 1 := by rw [← HLz.out]; exact (by omega)
            clear cl hlsz HLB
            go_wp2_with fail
            refine CL.out.mono ?_
            rintro e wz ⟨rfl, hbz⟩
            have HLT := Lib.hid (ls_below HLZ.out hbz)
            clear hbz CL HLZ
            go_wp2_with fail
            go_roundw
            case rel => exact ⟨k + 1, _, _, by omega, by omega, by go_num, by rw [HLz.out]; exact hlz, HLT, Lib.hid (HSR.out), Lib.hid (HRG.out)⟩
            case measure => simp [intOf]; omega
          by_cases hk2 : zk = 2
          · subst hk2
            clear hk0 hk1
            have hcb1 := HC1.out
            rcases (by omega : (0 ≤ zn ∧ zn < (m : Int)) ∨ ¬ (0 ≤ zn ∧ zn < (m : Int))) with hin | hout
            · obtain ⟨k2, rfl⟩ : ∃ k2 : Nat, zn = k2 := ⟨zn.toNat, by omega⟩
              have hk2 : k2 < m := by omega
              obtain ⟨y, hy⟩ : ∃ y, xs.getD k2 0 = y := ⟨_, rfl⟩
              have hat : atL xs (k2 : Int) = (y, true) := by unfold atL; rw [if_pos (by omega), ← hy]; rfl
              have ca := atI_any wa (k2 : Int) HLA.out.so
              rw [hat] at ca
              have CA := Lib.hid ca
              have HY : Hid (xs[k2]? = some y) := Lib.hid (by rw [HGD.out k2 hk2, hy])
              clear ca hat hy hin
              go_wp2_with fail
              refine CA.out.mono ?_
              rintro e wb ⟨rfl, hbb⟩
              have HLB := Lib.hid (ls_below HLA.out hbb)
              have hcb2 := below_cell hbb HC1.out
              obtain ⟨ad2, ead, hc⟩ := (sts_below HSB.out hbb).row (by omega)
              subst ead
              have hcell := hc k2 _ HY.out 0 _ rfl
              rw [Addr.add_add, Nat.add_zero, show k2 * kI = k2 from Nat.mul_one k2] at hcell
              have t3 : decide ((k2 : Int) ≥ 0) = true := decide_eq_true (by omega)
              have t4 : decide ((k2 : Int) < (m : Int)) = true := decide_eq_true (by omega)
              clear hbb CA hcb0 hcb1 HBX HC1 HSB HLA hc
              go_wp2_with (first | (refine wpList_index_st rfl 34 _ _ rfl stI rfl rfl rfl hk2 ?_) | fail)
              obtain ⟨Az, nz, cz, ez, _, HLz, _, _⟩ := ownk_open encI_len HLB.out.own
              try rw [ez]
              have hlsz := HLB.out
              rw [ez] at hlsz
              have HLZ := Lib.hid hlsz
              have cl := lenI_any wb hlsz.so
              rw [HLz.out] at cl
              have CL := Lib.hid cl
              have hlz : nz ≤ k + 1 := by rw [← HLz.out]; exact (by omega)
              clear cl hlsz HLB
              go_wp2_with fail
              refine CL.out.mono ?_
              rintro e wz ⟨rfl, hbz⟩
              have HLT := Lib.hid (ls_below HLZ.out hbz)
              clear hbz CL HLZ
              go_wp2_with fail
              go_roundw
              case rel => exact ⟨k + 1, _, _, by omega, by omega, by go_num, by rw [HLz.out]; exact hlz, HLT, Lib.hid (HSR.out), Lib.hid (HRG.out)⟩
              case measure => simp [intOf]; omega
            · have hat : atL xs zn = (0, false) := by unfold atL; rw [if_neg (by omega)]
              have ca := atI_any wa zn HLA.out.so
              rw [hat] at ca
              have CA := Lib.hid ca
              clear ca hat
              go_wp2_with fail
              refine CA.out.mono ?_
              rintro e wb ⟨rfl, hbb⟩
              have HLB := Lib.hid (ls_below HLA.out hbb)
              have hcb2 := below_cell hbb HC1.out
              clear hbb CA hcb0 hcb1 HBX HC1 HSB HLA
              by_cases h0 : 0 ≤ zn
              · have t3 : decide (0 ≤ zn) = true := decide_eq_true h0
                have t4 : decide (zn < (m : Int)) = false := decide_eq_false (by omega)
                clear hout
                go_wp2_with fail
                obtain ⟨Az, nz, cz, ez, _, HLz, _, _⟩ := ownk_open encI_len HLB.out.own
                try rw [ez]
                have hlsz := HLB.out
                rw [ez] at hlsz
                have HLZ := Lib.hid hlsz
                have cl := lenI_any wb hlsz.so
                rw [HLz.out] at cl
                have CL := Lib.hid cl
                have hlz : nz ≤ k + 1 := by rw [← HLz.out]; exact (by omega)
                clear cl hlsz HLB
                go_wp2_with fail
                refine CL.out.mono ?_
                rintro e wz ⟨rfl, hbz⟩
                have HLT := Lib.hid (ls_below HLZ.out hbz)
                clear hbz CL HLZ
                go_wp2_with fail
                go_roundw
                case rel => exact ⟨k + 1, _, _, by omega, by omega, by go_num, by rw [HLz.out]; exact hlz, HLT, Lib.hid (HSR.out), Lib.hid (HRG.out)⟩
                case measure => simp [intOf]; omega
              · have t3 : decide (0 ≤ zn) = false := decide_eq_false h0
                clear hout
                go_wp2_with fail
                obtain ⟨Az, nz, cz, ez, _, HLz, _, _⟩ := ownk_open encI_len HLB.out.own
                try rw [ez]
                have hlsz := HLB.out
                rw [ez] at hlsz
                have HLZ := Lib.hid hlsz
                have cl := lenI_any wb hlsz.so
                rw [HLz.out] at cl
                have CL := Lib.hid cl
                have hlz : nz ≤ k + 1 := by rw [← HLz.out]; exact (by omega)
                clear cl hlsz HLB
                go_wp2_with fail
                refine CL.out.mono ?_
                rintro e wz ⟨rfl, hbz⟩
                have HLT := Lib.hid (ls_below HLZ.out hbz)
                clear hbz CL HLZ
                go_wp2_with fail
                go_roundw
                case rel => exact ⟨k + 1, _, _, by omega, by omega, by go_num, by rw [HLz.out]; exact hlz, HLT, Lib.hid (HSR.out), Lib.hid (HRG.out)⟩
                case measure => simp [intOf]; omega
          by_cases hk3 : zk = 3
          · subst hk3
            clear hk0 hk1 hk2
            have hcb1 := HC1.out
            have HBXg := HBX
            rcases (by omega : (0 ≤ zn ∧ zn < (m : Int)) ∨ ¬ (0 ≤ zn ∧ zn < (m : Int))) with hin | hout
            · obtain ⟨k2, rfl⟩ : ∃ k2 : Nat, zn = k2 := ⟨zn.toNat, by omega⟩
              have hk2 : k2 < m := by omega
              have hat : (atL xs (k2 : Int)).2 = true := by unfold atL; rw [if_pos (by omega)]
              have hdr : dropL xs (k2 : Int) = xs.take k2 ++ xs.drop (k2 + 1) := by unfold dropL; rw [if_pos (by omega)]; rfl
              have cd := dropI_any wa (k2 : Int) HLA.out.so HLA.out.bel.size (by omega)
              rw [hat] at cd
              have CD := Lib.hid cd
              have HDR := Lib.hid hdr
              have t3 : decide ((k2 : Int) ≥ 0) = true := decide_eq_true (by omega)
              have t4 : decide ((k2 : Int) < (m : Int)) = true := decide_eq_true (by omega)
              clear cd hat hin hdr
              go_wp2_with fail
              refine CD.out.mono ?_
              rintro e wb ⟨rfl, v', hso, hg, ho⟩
              have HLB := Lib.hid (ls_so HLA.out hso hg ho)
              have hbx : wb.heap[b]? = some (.cells [.int .i64 3, .int .i64 (k2 : Nat)].toArray 54 (0, 0)) := by
                rw [hg.block b (mk_lt HBX.out) (by omega) (fun e => by have := hbv b e.symm; omega)]
                exact HBX.out
              have HBXB := Lib.hid hbx
              have HCUTH := Lib.hid (cut_hi stI Aa m ca k2 (by omega) .i64 (k2 : Int) rfl)
              obtain ⟨A5, hcut, hcs⟩ := cut_stM stI encI Aa m ca (k2 + 1) (by omega) hmc .i64 ((k2 + 1 : Nat) : Int) rfl
              have HCUTL := Lib.hid hcut
              have HCS := Lib.hid hcs
              have HSB : Hid (Sts encI kI wb Aa m xs) := Lib.hid (by
                obtain ⟨A', n', c', e1, _, HL', _, hs'⟩ := ownk_open encI_len HLB.out.own
                injection e1 with e1 e2 e3
                subst e1 e2 e3
                exact hs')
              clear hcut hcs hso hg ho hbx CD hcb0 hcb1 HBX HC1 HLA HBXg t3 t4
              go_upto_region 36 with fail
              refine draws_ (fun W => Below wb.heap.size wb W) (fun _ => True) (by kernel_rfl) reg_8_36 rfl inv0 (fun _ _ _ _ => trivial) (below_drew (Below.refl _ _)) trivial ?_
              refine w_any (FW.of (fun v W => OwnK encI kI 3 W wb.heap.size v []) (fun _ _ _ h hb => ownk_below h hb)) (by decide) (fun vs wq hI hK => ?_) ?_
              · exact ob_run [] (wants_none rfl) trivial rfl (op_lit0 etI rfl) ⟨below_alloc (Below.refl _ _) _, own_lit0 hI.size⟩
              refine w_move (.inl rfl) (fun vs w hK => ⟨wants_none rfl, rho_out rfl rfl⟩) ?_
              refine w_val [(6, _)] (_) (fun vs w hK => ⟨wants_none rfl, rho_out rfl rfl, trivial⟩) rfl (fun wq hI => by exact op_field rfl rfl Try.underlying54 rfl rfl rfl info3 (by decide)) ?_
              refine w_val [(189, _)] (_) (fun vs w hK => ⟨wants_none rfl, rho_in rfl (fv (hK 2 (memE rfl))), trivial⟩) rfl (fun wq hI => by exact run_load_cell (ad := ⟨b, 1, none⟩) (v := .int .i64 (k2 : Nat)) rfl rfl rfl Try.underlying3 rfl (by have := box_stays HBXB.out hI; simp [World.cell?, this])) ?_
              refine w_val [(188, _), (190, _)] (_) (fun vs w hK => ⟨wants_none rfl, rho_in rfl (fv (hK 1 (memE rfl))), rho_in rfl (fv (hK 3 (memE rfl))), trivial⟩) rfl (fun wq hI => by exact run_slice_op rfl rfl (HCUTH.out wq)) ?_
              refine w_lin (FW.of (fun v W => OwnK encI kI 3 W wb.heap.size v (xs.take k2)) (fun _ _ _ h hb => ownk_below h hb)) (by decide) (fun vs wq hI hJ hK => ?_) ?_
              · have hA : OwnK encI kI 3 wq wb.heap.size (vs 0) [] := hK 0 (memE rfl)
                obtain ⟨v1, w9, hrun, k1, k2_⟩ := ownk_runA (c := ca) encI_len encI_one etI 34 hA (sts_take (sts_below HSB.out hI) k2 (by omega)) hI.size (by simp; omega) (by simp; omega)
                rw [List.nil_append] at k1
                exact ob_run [(187, _), (191, _)] (wants_none rfl) ⟨rho_in rfl rfl, rho_in rfl (fv (hK 4 (memE rfl))), trivial⟩ rfl (run_append_op rfl rfl rfl hrun) ⟨hI.grown k2_.grown hI.size (ownk_base hA), k1⟩
              refine w_move (.inl rfl) (fun vs w hK => ⟨wants_none rfl, rho_out rfl rfl⟩) ?_
              refine w_val [(6, _)] (_) (fun vs w hK => ⟨wants_none rfl, rho_out rfl rfl, trivial⟩) rfl (fun wq hI => by exact op_field rfl rfl Try.underlying54 rfl rfl rfl info3 (by decide)) ?_
              refine w_val [(194, _)] (_) (fun vs w hK => ⟨wants_none rfl, rho_in rfl (fv (hK 7 (memE rfl))), trivial⟩) rfl (fun wq hI => by exact run_load_cell (ad := ⟨b, 1, none⟩) (v := .int .i64 (k2 : Nat)) rfl rfl rfl Try.underlying3 rfl (by have := box_stays HBXB.out hI; simp [World.cell?, this])) ?_
              refine w_val [(195, _)] (_) (fun vs w hK => ⟨wants_none rfl, rho_in rfl (fv (hK 8 (memE rfl))), trivial⟩) rfl (fun wq hI => by exact run_int_add (c := ((k2 + 1 : Nat) : Int)) rfl rfl rfl (by rw [i64_id (by omega) (by omega)]; omega)) ?_
              refine w_val [(193, _), (196, _)] (_) (fun vs w hK => ⟨wants_none rfl, rho_in rfl (fv (hK 6 (memE rfl))), rho_in rfl (fv (hK 9 (memE rfl))), trivial⟩) rfl (fun wq hI => by exact run_slice_op rfl rfl (HCUTL.out wq)) ?_
              refine w_lin (FW.of (fun v W => OwnK encI kI 3 W wb.heap.size v (dropL xs (k2 : Int))) (fun _ _ _ h hb => ownk_below h hb)) (by decide) (fun vs wq hI hJ hK => ?_) ?_
              · have hA : OwnK encI kI 3 wq wb.heap.size (vs 5) (xs.take k2) := hK 5 (memE rfl)
                obtain ⟨v1, w9, hrun, k1, k2_⟩ := ownk_runA (c := ca - (k2 + 1)) encI_len encI_one etI 34 hA (HCS.out wq xs (sts_below HSB.out hI)) hI.size (by rw [List.length_take]; omega) (by rw [List.length_take]; omega)
                rw [← HDR.out] at k1
                exact ob_run [(192, vs 5), (197, _)] (wants_none rfl) ⟨rho_in rfl rfl, rho_in rfl (fv (hK 10 (memE rfl))), trivial⟩ rfl (run_append_op rfl rfl rfl hrun) ⟨hI.grown k2_.grown hI.size (ownk_base hA), k1⟩
              refine w_lin (FW.of (fun v W => OwnK encI kI 3 W wb.heap.size v (dropL xs (k2 : Int))) (fun _ _ _ h hb => ownk_below h hb)) (by decide) (fun vs wq hI hJ hK => ?_) ?_
              · exact ob_copy (.inr rfl) (wants_none rfl) (rho_in rfl rfl) ⟨hI, hK 11 (memE rfl)⟩
              refine w_end rfl rfl rfl (fun vs wq hI hF => ?_)
              simp only [List.reverse_cons, List.reverse_nil, List.nil_append, List.cons_append, finL_val, finL_of, finL_any, finL_app, finL_new, finL_gr, finL_row, finL_box, finL_nil, Act.put, List.setIfInBounds_toArray, List.set_cons_zero, List.set_cons_succ, Nat.reduceAdd]
              have h7 : OwnK encI kI 3 wq wb.heap.size (vs 12) (dropL xs (k2 : Int)) := hF 12 (by decide) rfl
              have HLC := Lib.hid (ls_new HLB.out hI h7)
              clear hI hF h7 HLB HSB HCS HCUTL HCUTH HBXB
              obtain ⟨wc, rfl⟩ : ∃ wc : World, wc = wq := ⟨_, rfl⟩
              obtain ⟨Az, nz, cz, ez, _, HLz, _, _⟩ := ownk_open encI_len HLC.out.own
              try rw [ez]
              have hlsz := HLC.out
              rw [ez] at hlsz
              have HLZ := Lib.hid hlsz
              have cl := lenI_any wc hlsz.so
              rw [HLz.out] at cl
              have CL := Lib.hid cl
              have hlz : nz ≤ k + 1 := by rw [← HLz.out]; exact (by have := len_drop xs (k2 : Int); omega)
              clear cl hlsz HLC
              go_wp2_with fail
              refine CL.out.mono ?_
              rintro e wz ⟨rfl, hbz⟩
              have HLT := Lib.hid (ls_below HLZ.out hbz)
              clear hbz CL HLZ
              go_wp2_with fail
              go_roundw
              case rel => exact ⟨k + 1, _, _, by omega, by omega, by go_num, by rw [HLz.out]; exact hlz, HLT, Lib.hid (srt_drop HSR.out (k2 : Int)), Lib.hid (rng_drop HRG.out (k2 : Int))⟩
              case measure => simp [intOf]; omega
            · have hat : (atL xs zn).2 = false := by unfold atL; rw [if_neg (by omega)]
              have hdr : dropL xs zn = xs := by unfold dropL; rw [if_neg (by omega)]
              have cd := dropI_any wa zn HLA.out.so HLA.out.bel.size (by omega)
              rw [hat, hdr] at cd
              have CD := Lib.hid cd
              clear cd hat hdr
              by_cases h0 : 0 ≤ zn
              · have t3 : decide (0 ≤ zn) = true := decide_eq_true h0
                have t4 : decide (zn < (m : Int)) = false := decide_eq_false (by omega)
                clear hout
                go_wp2_with fail
                refine CD.out.mono ?_
                rintro e wb ⟨rfl, v', hso, hg, ho⟩
                have HLB := Lib.hid (ls_so HLA.out hso hg ho)
                clear hso hg ho CD hcb0 hcb1 HBX HC1 HLA HBXg t3 t4 HSB
                go_wp2_with fail
                obtain ⟨Az, nz, cz, ez, _, HLz, _, _⟩ := ownk_open encI_len HLB.out.own
                try rw [ez]
                have hlsz := HLB.out
                rw [ez] at hlsz
                have HLZ := Lib.hid hlsz
                have cl := lenI_any wb hlsz.so
                rw [HLz.out] at cl
                have CL := Lib.hid cl
                have hlz : nz ≤ k + 1 := by rw [← HLz.out]; exact (by omega)
                clear cl hlsz HLB
                go_wp2_with fail
                refine CL.out.mono ?_
                rintro e wz ⟨rfl, hbz⟩
                have HLT := Lib.hid (ls_below HLZ.out hbz)
                clear hbz CL HLZ
                go_wp2_with fail
                go_roundw
                case rel => exact ⟨k + 1, _, _, by omega, by omega, by go_num, by rw [HLz.out]; exact hlz, HLT, Lib.hid (HSR.out), Lib.hid (HRG.out)⟩
                case measure => simp [intOf]; omega
              · have t3 : decide (0 ≤ zn) = false := decide_eq_false h0
                clear hout
                go_wp2_with fail
                refine CD.out.mono ?_
                rintro e wb ⟨rfl, v', hso, hg, ho⟩
                have HLB := Lib.hid (ls_so HLA.out hso hg ho)
                clear hso hg ho CD hcb0 hcb1 HBX HC1 HLA HBXg t3 HSB
                go_wp2_with fail
                obtain ⟨Az, nz, cz, ez, _, HLz, _, _⟩ := ownk_open encI_len HLB.out.own
                try rw [ez]
                have hlsz := HLB.out
                rw [ez] at hlsz
                have HLZ := Lib.hid hlsz
                have cl := lenI_any wb hlsz.so
                rw [HLz.out] at cl
                have CL := Lib.hid cl
                have hlz : nz ≤ k + 1 := by rw [← HLz.out]; exact (by omega)
                clear cl hlsz HLB
                go_wp2_with fail
                refine CL.out.mono ?_
                rintro e wz ⟨rfl, hbz⟩
                have HLT := Lib.hid (ls_below HLZ.out hbz)
                clear hbz CL HLZ
                go_wp2_with fail
                go_roundw
                case rel => exact ⟨k + 1, _, _, by omega, by omega, by go_num, by rw [HLz.out]; exact hlz, HLT, Lib.hid (HSR.out), Lib.hid (HRG.out)⟩
                case measure => simp [intOf]; omega
          · have t10 : (zk == 0) = false := by simp only [beq_eq_false_iff_ne, ne_eq]; exact hk0
            have t11 : (zk == 1) = false := by simp only [beq_eq_false_iff_ne, ne_eq]; exact hk1
            have t12 : (zk == 2) = false := by simp only [beq_eq_false_iff_ne, ne_eq]; exact hk2
            have t13 : (zk == 3) = false := by simp only [beq_eq_false_iff_ne, ne_eq]; exact hk3
            clear hk0 hk1 hk2 hk3 HBX HC1 HSB
            go_wp2_with fail
            obtain ⟨Az, nz, cz, ez, _, HLz, _, _⟩ := ownk_open encI_len HLA.out.own
            try rw [ez]
            have hlsz := HLA.out
            rw [ez] at hlsz
            have HLZ := Lib.hid hlsz
            have cl := lenI_any wa hlsz.so
            rw [HLz.out] at cl
            have CL := Lib.hid cl
            have hlz : nz ≤ k + 1 := by rw [← HLz.out]; exact (by omega)
            clear cl hlsz HLA
            go_wp2_with fail
            refine CL.out.mono ?_
            rintro e wz ⟨rfl, hbz⟩
            have HLT := Lib.hid (ls_below HLZ.out hbz)
            clear hbz CL HLZ
            go_wp2_with fail
            go_roundw
            case rel => exact ⟨k + 1, _, _, by omega, by omega, by go_num, by rw [HLz.out]; exact hlz, HLT, Lib.hid (HSR.out), Lib.hid (HRG.out)⟩
            case measure => simp [intOf]; omega
    | false =>
      go_wp2_with fail
      go_loopw [206] (fun iv wq => ∃ j : Nat, j ≤ m ∧ iv = .int .i64 j ∧ Hid (Below wr.heap.size wr wq)) (fun iv _ => m - (intOf iv).toNat)
      case atStart => exact ⟨0, by omega, rfl, Lib.hid (Below.refl _ _)⟩
      case round =>
        obtain ⟨j, hjm, rfl, HW⟩ := hrel
        by_cases hlt : j < m
        · have t1 : decide ((j : Int) < (m : Int)) = true := decide_eq_true (by omega)
          have HL := Lib.hid (ls_below HLS.out HW.out)
          obtain ⟨y, hy⟩ : ∃ y, xs.getD j 0 = y := ⟨_, rfl⟩
          have hat : atL xs (j : Int) = (y, true) := by unfold atL; rw [if_pos (by omega), ← hy]; rfl
          have hgy : xs[j]? = some y := by rw [← hy, List.getD_eq_getElem?_getD, List.getElem?_eq_getElem (by omega)]; rfl
          have HGY := Lib.hid hgy
          rename_i wq _
          have ca := atI_any _ (j : Int) HL.out.so
          rw [hat] at ca
          have CA := Lib.hid ca
          clear ca hat hy hgy
          go_wp2_with fail
          refine CA.out.mono ?_
          rintro e wb ⟨rfl, hbb⟩
          have HW2 := Lib.hid (below_then HW.out HW.out.size hbb)
          obtain ⟨A', n', c', e1, _, HL', _, hs'⟩ := ownk_open encI_len (ownk_below HL.out.own hbb)
          injection e1 with e1 e2 e3
          subst e1 e2 e3
          obtain ⟨ad2, ead, hc⟩ := hs'.row (by omega)
          subst ead
          have hcell := hc j _ HGY.out 0 _ rfl
          rw [Addr.add_add, Nat.add_zero, show j * kI = j from Nat.mul_one j] at hcell
          clear hbb CA hc hs' HW HL
          go_wp2_with (first | (refine wpList_index_st rfl 34 _ _ rfl stI rfl rfl rfl hlt ?_) | fail)
          go_roundw
          case rel => exact ⟨j + 1, by omega, by go_num, HW2⟩
          case measure => simp [intOf]; omega
        · obtain rfl : j = m := by omega
          have t1 : decide ((j : Int) < (j : Int)) = false := by simp
          have HWF := Lib.hid (below_then HLS.out.bel HLS.out.bel.size HW.out)
          clear HW
          go_wp2_with fail
          refine (atN_any 0 _).mono ?_
          rintro e wb ⟨rfl, hbb⟩
          have HW1 := Lib.hid (below_then HWF.out HWF.out.size hbb)
          clear hbb HWF
          go_wp2_with fail
          refine (putN_any 1 _).mono ?_
          rintro e wc ⟨rfl, hbb⟩
          have HW2 := Lib.hid (below_then HW1.out HW1.out.size hbb)
          clear hbb HW1
          go_wp2_with fail
          refine (seekN_any 1 _).mono ?_
          rintro e wd ⟨rfl, hbb⟩
          have HW3 := Lib.hid (below_then HW2.out HW2.out.size hbb)
          clear hbb HW2
          go_wp2_with fail
          refine (dropN_any 0 _).mono ?_
          rintro e we ⟨rfl, hbb⟩
          have HW4 := Lib.hid (below_then HW3.out HW3.out.size hbb)
          clear hbb HW3
          go_wp2_with fail
          refine (lenN_any _).mono ?_
          rintro e wf ⟨rfl, hbb⟩
          have HW5 := Lib.hid (below_then HW4.out HW4.out.size hbb)
          clear hbb HW4
          go_wp2_with fail
          refine (newNil_any _).mono ?_
          rintro e wg ⟨rfl, hbb⟩
          have HW6 := Lib.hid (below_then HW5.out HW5.out.size hbb)
          clear hbb HW5
          go_wp2_with fail
          go_ret
          exact ⟨rfl, HW6.out⟩
end Go.Proofs.Ytnkeijdpjcclcaa.Mem

