/- Contracts of package record: Put of what is too long; Next. -/
import Derived.Test.YtakjmhcdmchgdaaDoorRecA
namespace Go.Proofs.YtakjmhcdmchgdaaDoor.Rec
set_option linter.unusedVariables false
set_option linter.unusedSimpArgs false
open Go.Proofs.YtakjmhcdmchgdaaDoor.Kit Go.Proofs.YtakjmhcdmchgdaaDoor.Num Go.RowKit Go.Proofs.YtakjmhcdmchgdaaDoorW.PrintWords Go.Proofs.YtakjmhcdmchgdaaDoorW.PrintLast Go.Proofs.YtakjmhcdmchgdaaDoorW.PrintMore NumPure
open Crc (Halves sum mask sum_any mask_any mask_lt sum_lt)
theorem recLong_any (A : Option Addr) (n c : Nat) (v : Value) (w : World) (hn : 1048576 < n) (hm : n ≤ 9223372036854775807) :
    Calls Tryd.prog 23 #[v, .slice A n c] w fun e w' => e = .returned (.tuple #[v, .int .i64 6]) ∧ w = w' := by
  have t0 : decide ((1048576 : Int) < (n : Int)) = true := decide_eq_true (by omega)
  go_enter Tryd.func23, Tryd.ntmps23
  go_wp2_with fail
  go_ret2
  exact ⟨rfl, rfl⟩
/-- What Next tells: the bytes, how many with the head, the error. -/
def next (l : List Int) : List Int × Nat × Nat :=
  if l.length < 12 then ([], 0, 8)
  else if leVal ((l.take 8).drop 4) ≠ mask (sum (l.take 4)) ∨ 1048576 < leVal (l.take 4) then ([], 0, 12)
  else if l.length < 12 + leVal (l.take 4) then ([], 0, 8)
  else if leVal ((l.take 12).drop 8) ≠ mask (sum ((l.take (12 + leVal (l.take 4))).drop 12)) then ([], 0, 12)
  else ((l.take (12 + leVal (l.take 4))).drop 12, 12 + leVal (l.take 4), 0)
theorem next_byte {l : List Int} (h : Byte l) : Byte (next l).1 := by
  unfold next
  repeat' split
  all_goals first | (intro x hx; cases hx; done) | exact (h.take _).drop _
theorem le4_lt {l : List Int} (h : Byte l) (hl : l.length = 4) : leVal l < 4294967296 := by
  have := leVal_lt h
  rw [hl] at this
  exact this
theorem wrap_u32n (n : Nat) (h : n < 4294967296) : IntKind.u32.wrap (n : Int) = (n : Int) := by
  simp [IntKind.wrap, IntKind.signed, IntKind.bits]; omega
def NextPost (l : List Int) (w : World) (e : Ending) (w' : World) : Prop := ∃ v, e = .returned (.tuple #[v, .int .i64 (next l).2.1, .int .i64 (next l).2.2]) ∧ GrB w' w.heap.size v (next l).1 ∧ Below w.heap.size w w'
theorem reg_25_4 : RegOk (opsOf Tryd.f25 4) [[], [0], [0, 1], [0, 1, 2], [], [4], [0, 1, 2, 4, 5], [0, 1, 2, 4, 5, 6], [0, 1, 2, 3, 4, 5, 6, 7], [0, 1, 2, 3, 4, 5, 6, 7, 8], [0, 1, 2, 3, 4, 5, 6, 7, 8, 9], [0, 1, 2, 3, 4, 5, 6, 7, 8, 9, 10], [0, 1, 2, 3, 4, 5, 6, 7, 8, 9, 10, 11]] [] [some 13, some 14, some 15, some 16, some 17, some 18, some 19, some 20, some 21, some 22, some 23, some 24, some 25] := regOk (by kernel_rfl)
theorem reg_25_9 : RegOk (opsOf Tryd.f25 9) [[], [0], [0, 1], [0, 1, 2], [], [0, 1, 2, 4], [0, 1, 2, 4, 5], [0, 1, 2, 3, 4, 5, 6]] [] [some 36, some 37, some 38, some 39, some 40, some 41, some 42, some 43] := regOk (by kernel_rfl)
set_option maxRecDepth 20000 in
set_option maxHeartbeats 3200000 in
theorem recNext_any (A : Option Addr) (n c : Nat) (l : List Int) (w : World) (hT : Halves w) (hr : Rds .u8 w A n l) (hb : Byte l) (hnc : n ≤ c) (hn : n ≤ 140737488355328) :
    Calls Tryd.prog 25 #[.slice A n c] w (NextPost l w) := by
  have hll := rds_len hr
  have HRD := Lib.hid hr
  have HBT := Lib.hid hb
  have HLL := Lib.hid hll
  have HT := Lib.hid hT
  by_cases h12 : n < 12
  · have hf : next l = ([], 0, 8) := by unfold next; rw [if_pos (by omega)]
    have HF := Lib.hid hf
    have t0 : decide ((n : Int) < 12) = true := decide_eq_true (by omega)
    clear hr hb hll hT hf
    go_enter Tryd.func25, Tryd.ntmps25
    go_wp2_with fail
    go_ret3
    exact ⟨_, by rw [HF.out]; rfl, by rw [HF.out]; exact gr_nil _ _ _, Below.refl _ _⟩
  · have t0 : decide ((n : Int) < 12) = false := decide_eq_false (by omega)
    obtain ⟨hcut4, hC4⟩ := cut_to (enc := Value.int .u8) (h1 := int_one .u8) 0 tb A n c 4 (by omega) hnc 4 rfl
    obtain ⟨A8, hcut8, hC8⟩ := cut_mid (enc := Value.int .u8) (h1 := int_one .u8) 0 tb A n c 4 8 4 (by omega) (by omega) hnc 4 8 rfl rfl
    obtain ⟨A12, hcut12, hC12⟩ := cut_mid (enc := Value.int .u8) (h1 := int_one .u8) 0 tb A n c 8 12 4 (by omega) (by omega) hnc 8 12 rfl rfl
    have hl4 : (l.take 4).length = 4 := by rw [List.length_take]; omega
    have hl8 : ((l.take 8).drop 4).length = 4 := by rw [List.length_drop, List.length_take]; omega
    have hl12 : ((l.take 12).drop 8).length = 4 := by rw [List.length_drop, List.length_take]; omega
    have hb4 : Byte (l.take 4) := hb.take 4
    have hb8 : Byte ((l.take 8).drop 4) := (hb.take 8).drop 4
    have hb12 : Byte ((l.take 12).drop 8) := (hb.take 12).drop 8
    have CL4 := Lib.hid (fun wq (h : Below w.heap.size w wq) => pureB (little_val A 4 c _ wq (hC4 wq _ (rds_below hr h)) hl4 (by omega) hb4))
    have CL8 := Lib.hid (fun wq (h : Below w.heap.size w wq) => pureB (little_val A8 4 (c - 4) _ wq (hC8 wq _ (rds_below hr h)) hl8 (by omega) hb8))
    have CL12 := Lib.hid (fun wq (h : Below w.heap.size w wq) => pureB (little_val A12 4 (c - 8) _ wq (hC12 wq _ (rds_below hr h)) hl12 (by omega) hb12))
    rw [List.take_of_length_le (by omega)] at CL4
    rw [List.take_of_length_le (by omega)] at CL8
    rw [List.take_of_length_le (by omega)] at CL12
    have CS4 := Lib.hid (fun wq (h : Below w.heap.size w wq) => pureB (sum_any A 4 c _ wq (halves_of hT h) (hC4 wq _ (rds_below hr h)) hl4 (by omega) (byte_is hb4)))
    have hs4 : sum (l.take 4) < 4294967296 := sum_lt (byte_is hb4)
    have CM4 := Lib.hid (fun wq => pureB (mask_any _ hs4 wq))
    have hN := le4_lt hb4 hl4
    have hM := le4_lt hb8 hl8
    have hM12 := le4_lt hb12 hl12
    have hW8 := Lib.hid (wrap_u32n _ hM)
    have hW12 := Lib.hid (wrap_u32n _ hM12)
    have hdef : ¬ l.length < 12 := by omega
    have hnx : next l = if leVal ((l.take 8).drop 4) ≠ mask (sum (l.take 4)) ∨ 1048576 < leVal (l.take 4) then ([], 0, 12) else if l.length < 12 + leVal (l.take 4) then ([], 0, 8)
        else if leVal ((l.take 12).drop 8) ≠ mask (sum ((l.take (12 + leVal (l.take 4))).drop 12)) then ([], 0, 12) else ((l.take (12 + leVal (l.take 4))).drop 12, 12 + leVal (l.take 4), 0) := by
      unfold next; rw [if_neg hdef]
    have HNX := Lib.hid hnx
    clear hnx hdef hl4 hl8 hl12 hb4 hb8 hb12 hC4 hC8 hC12 hr hb hll hT hs4 hM hM12
    generalize leVal (l.take 4) = N at CL4 hN HNX
    generalize leVal ((l.take 8).drop 4) = M8 at CL8 HNX hW8
    generalize leVal ((l.take 12).drop 8) = M12 at CL12 HNX hW12
    generalize sum (l.take 4) = S4 at CS4 CM4 HNX
    generalize mask S4 = K4 at CM4 HNX
    have HN := Lib.hid hN
    go_enter Tryd.func25, Tryd.ntmps25
    go_wp2_with fail
    refine (CL4.out w (Below.refl _ _)).mono ?_
    rintro e w1 ⟨rfl, hb1⟩
    have HB1 := Lib.hid hb1
    clear hb1 CL4
    go_upto_region 4 with fail
    by_cases hMK : M8 = K4
    · by_cases hbig : 1048576 < N
      · have HF : Hid (next l = ([], 0, 12)) := Lib.hid (by rw [HNX.out, if_pos (.inr hbig)])
        have HK := Lib.hid hMK
        have HG := Lib.hid hbig
        clear hMK hbig
        refine draws_ (fun wq => Below w.heap.size w wq) (fun _ => True) (by kernel_rfl) reg_25_4 rfl (fun _ _ h k => below_then h h.size k) (fun _ _ _ _ => trivial) (below_drew HB1.out) trivial ?_
        refine w_move (.inl rfl) (fun vs w hK => ⟨wants_none rfl, rho_out rfl rfl⟩) ?_
        refine w_val [(13, _)] _ (fun vs w hK => ⟨wants_none rfl, rho_in rfl (fv (hK 0 (by decide))), trivial⟩) rfl (fun wq hI => by simp only [execOp, Option.map_some, Option.map_none, lk_tmp, lk_const, lkT_cons, ↓reduceIte, Nat.reduceEqDiff]; go_simp; (first | done | rfl)) ?_
        refine w_call [(14, _)] _ _ (by decide) (fun vs w hK => ⟨wants_none rfl, rho_in rfl (fv (hK 1 (by decide))), trivial⟩) rfl rfl Tryd.func30 (by kernel_rfl) rfl (fun wq hI => CL8.out wq hI) (by first | (simp only [List.map_toArray, List.map_cons, List.map_nil]; done) | (simp only [List.map_toArray, List.map_cons, List.map_nil]; rfl)) ?_
        refine w_val [(15, _)] (_) (fun vs w hK => ⟨wants_none rfl, rho_in rfl (fv (hK 2 (by decide))), trivial⟩) rfl (fun wq hI => by simp only [execOp, lk_tmp, lk_const, lkT_cons, ↓reduceIte, Nat.reduceEqDiff]; go_simp; rw [hW8.out]) ?_
        refine w_move (.inl rfl) (fun vs w hK => ⟨wants_none rfl, rho_out rfl rfl⟩) ?_
        refine w_val [(17, _)] _ (fun vs w hK => ⟨wants_none rfl, rho_in rfl (fv (hK 4 (by decide))), trivial⟩) rfl (fun wq hI => by simp only [execOp, Option.map_some, Option.map_none, lk_tmp, lk_const, lkT_cons, ↓reduceIte, Nat.reduceEqDiff]; go_simp; (first | done | rfl)) ?_
        refine w_call [(18, _)] _ _ (by decide) (fun vs w hK => ⟨wants_none rfl, rho_in rfl (fv (hK 5 (by decide))), trivial⟩) rfl rfl Tryd.func16 (by kernel_rfl) rfl (fun wq hI => CS4.out wq hI) (by first | (simp only [List.map_toArray, List.map_cons, List.map_nil]; done) | (simp only [List.map_toArray, List.map_cons, List.map_nil]; rfl)) ?_
        refine w_call [(19, _)] _ _ (by decide) (fun vs w hK => ⟨wants_none rfl, rho_in rfl (fv (hK 6 (by decide))), trivial⟩) rfl rfl Tryd.func19 (by kernel_rfl) rfl (fun wq hI => CM4.out wq) (by first | (simp only [List.map_toArray, List.map_cons, List.map_nil]; done) | (simp only [List.map_toArray, List.map_cons, List.map_nil]; rfl)) ?_
        refine w_val [(16, _), (20, _)] (_) (fun vs w hK => ⟨wants_none rfl, rho_in rfl (fv (hK 3 (by decide))), rho_in rfl (fv (hK 7 (by decide))), trivial⟩) rfl (fun wq hI => by exact run_int_neq (r := false) rfl rfl rfl (by rw [HK.out]; simp)) ?_
        refine w_move (.inl rfl) (fun vs w hK => ⟨wants_none rfl, rho_in rfl (fv (hK 8 (by decide)))⟩) ?_
        refine w_move (.inl rfl) (fun vs w hK => ⟨wants_g rfl (fv (hK 9 (by decide))), rho_out rfl rfl⟩) ?_
        refine w_val [(23, _)] (_) (fun vs w hK => ⟨wants_g rfl (fv (hK 9 (by decide))), rho_in rfl (fv (hK 10 (by decide))), trivial⟩) rfl (fun wq hI => by exact run_int_gtr (r := true) rfl rfl rfl (decide_eq_true (by have := HG.out; omega))) ?_
        refine w_pick (b := false) rfl (fun vs w hK => ⟨wants_none rfl, (rho_in rfl (fv (hK 9 (by decide)))), (rho_in rfl (fv (hK 11 (by decide))))⟩) ?_
        refine w_end rfl rfl rfl (fun vs wq hI hF => ?_)
        simp only [List.reverse_cons, List.reverse_nil, List.nil_append, List.cons_append, finL_val, finL_of, finL_any, finL_app, finL_new, finL_gr, finL_row, finL_box, finL_nil, Act.put, List.setIfInBounds_toArray, List.set_cons_zero, List.set_cons_succ, Nat.reduceAdd]
        have HB := Lib.hid hI
        clear hI hF
        go_wp2_with fail
        go_ret3
        exact ⟨_, by rw [HF.out]; rfl, by rw [HF.out]; exact gr_nil _ _ _, HB.out⟩
      · have HK := Lib.hid hMK
        have HG := Lib.hid hbig
        clear hMK hbig
        refine draws_ (fun wq => Below w.heap.size w wq) (fun _ => True) (by kernel_rfl) reg_25_4 rfl (fun _ _ h k => below_then h h.size k) (fun _ _ _ _ => trivial) (below_drew HB1.out) trivial ?_
        refine w_move (.inl rfl) (fun vs w hK => ⟨wants_none rfl, rho_out rfl rfl⟩) ?_
        refine w_val [(13, _)] _ (fun vs w hK => ⟨wants_none rfl, rho_in rfl (fv (hK 0 (by decide))), trivial⟩) rfl (fun wq hI => by simp only [execOp, Option.map_some, Option.map_none, lk_tmp, lk_const, lkT_cons, ↓reduceIte, Nat.reduceEqDiff]; go_simp; (first | done | rfl)) ?_
        refine w_call [(14, _)] _ _ (by decide) (fun vs w hK => ⟨wants_none rfl, rho_in rfl (fv (hK 1 (by decide))), trivial⟩) rfl rfl Tryd.func30 (by kernel_rfl) rfl (fun wq hI => CL8.out wq hI) (by first | (simp only [List.map_toArray, List.map_cons, List.map_nil]; done) | (simp only [List.map_toArray, List.map_cons, List.map_nil]; rfl)) ?_
        refine w_val [(15, _)] (_) (fun vs w hK => ⟨wants_none rfl, rho_in rfl (fv (hK 2 (by decide))), trivial⟩) rfl (fun wq hI => by simp only [execOp, lk_tmp, lk_const, lkT_cons, ↓reduceIte, Nat.reduceEqDiff]; go_simp; rw [hW8.out]) ?_
        refine w_move (.inl rfl) (fun vs w hK => ⟨wants_none rfl, rho_out rfl rfl⟩) ?_
        refine w_val [(17, _)] _ (fun vs w hK => ⟨wants_none rfl, rho_in rfl (fv (hK 4 (by decide))), trivial⟩) rfl (fun wq hI => by simp only [execOp, Option.map_some, Option.map_none, lk_tmp, lk_const, lkT_cons, ↓reduceIte, Nat.reduceEqDiff]; go_simp; (first | done | rfl)) ?_
        refine w_call [(18, _)] _ _ (by decide) (fun vs w hK => ⟨wants_none rfl, rho_in rfl (fv (hK 5 (by decide))), trivial⟩) rfl rfl Tryd.func16 (by kernel_rfl) rfl (fun wq hI => CS4.out wq hI) (by first | (simp only [List.map_toArray, List.map_cons, List.map_nil]; done) | (simp only [List.map_toArray, List.map_cons, List.map_nil]; rfl)) ?_
        refine w_call [(19, _)] _ _ (by decide) (fun vs w hK => ⟨wants_none rfl, rho_in rfl (fv (hK 6 (by decide))), trivial⟩) rfl rfl Tryd.func19 (by kernel_rfl) rfl (fun wq hI => CM4.out wq) (by first | (simp only [List.map_toArray, List.map_cons, List.map_nil]; done) | (simp only [List.map_toArray, List.map_cons, List.map_nil]; rfl)) ?_
        refine w_val [(16, _), (20, _)] (_) (fun vs w hK => ⟨wants_none rfl, rho_in rfl (fv (hK 3 (by decide))), rho_in rfl (fv (hK 7 (by decide))), trivial⟩) rfl (fun wq hI => by exact run_int_neq (r := false) rfl rfl rfl (by rw [HK.out]; simp)) ?_
        refine w_move (.inl rfl) (fun vs w hK => ⟨wants_none rfl, rho_in rfl (fv (hK 8 (by decide)))⟩) ?_
        refine w_move (.inl rfl) (fun vs w hK => ⟨wants_g rfl (fv (hK 9 (by decide))), rho_out rfl rfl⟩) ?_
        refine w_val [(23, _)] (_) (fun vs w hK => ⟨wants_g rfl (fv (hK 9 (by decide))), rho_in rfl (fv (hK 10 (by decide))), trivial⟩) rfl (fun wq hI => by exact run_int_gtr (r := false) rfl rfl rfl (decide_eq_false (by have := HG.out; omega))) ?_
        refine w_pick (b := false) rfl (fun vs w hK => ⟨wants_none rfl, (rho_in rfl (fv (hK 9 (by decide)))), (rho_in rfl (fv (hK 11 (by decide))))⟩) ?_
        refine w_end rfl rfl rfl (fun vs wq hI hF => ?_)
        simp only [List.reverse_cons, List.reverse_nil, List.nil_append, List.cons_append, finL_val, finL_of, finL_any, finL_app, finL_new, finL_gr, finL_row, finL_box, finL_nil, Act.put, List.setIfInBounds_toArray, List.set_cons_zero, List.set_cons_succ, Nat.reduceAdd]
        have HB := Lib.hid hI
        have HNX2 := HNX
        rw [if_neg (by rw [HK.out]; simp only [ne_eq, not_true, false_or]; exact HG.out)] at HNX2
        clear hI hF HNX
        have hwa := wrap_u64n (12 + N) (by omega)
        have hwb := wrap_u64n n (by omega)
        have hca : ((12 + N : Nat) : Int) = (12 : Int) + (N : Int) := by omega
        rw [hca] at hwa
        by_cases hsh : n < 12 + N
        · have HF : Hid (next l = ([], 0, 8)) := Lib.hid (by rw [HNX2.out, if_pos (by rw [HLL.out]; exact hsh)])
          have hlt : (n : Int) < 12 + (N : Int) := by omega
          clear hca
          go_wp2_with fail
          go_ret3
          exact ⟨_, by rw [HF.out]; rfl, by rw [HF.out]; exact gr_nil _ _ _, HB.out⟩
        · have HNX3 := HNX2
          rw [if_neg (by rw [HLL.out]; exact hsh)] at HNX3
          clear HNX2
          have hge : ¬ (n : Int) < 12 + (N : Int) := by omega
          obtain ⟨AD, hcutD, hCD⟩ := cut_mid_k (enc := Value.int .u8) (h1 := int_one .u8) .i64 .u64 0 tb A n c 12 (12 + N) N (by omega) (by omega) hnc 12 ((12 : Int) + (N : Int)) rfl (by omega)
          have hRD := fun wq (h : Below w.heap.size w wq) => hCD wq _ (rds_below HRD.out h)
          have hld : ((l.take (12 + N)).drop 12).length = N := by rw [List.length_drop, List.length_take, HLL.out]; omega
          have hbd : Byte ((l.take (12 + N)).drop 12) := (HBT.out.take _).drop _
          have CSD := Lib.hid (fun wq (h : Below w.heap.size w wq) => pureB (sum_any AD N (c - 12) _ wq (halves_of HT.out h) (hRD wq h) hld (by omega) (byte_is hbd)))
          have hsD : sum ((l.take (12 + N)).drop 12) < 4294967296 := sum_lt (byte_is hbd)
          have CMD := Lib.hid (fun wq => pureB (mask_any _ hsD wq))
          have HD := Lib.hid hRD
          clear hRD hld hbd hsD hCD hsh
          have hN12 : (12 : Int) + (N : Int) ≤ 9223372036854775807 := by have := HG.out; omega
          generalize (l.take (12 + N)).drop 12 = D at CSD CMD HD HNX3
          generalize sum D = SD at CSD CMD HNX3
          generalize mask SD = KD at CMD HNX3
          by_cases hMD : M12 = KD
          · have HF : Hid (next l = (D, 12 + N, 0)) := Lib.hid (by rw [HNX3.out, if_neg (by simp [hMD])])
            have HMD := Lib.hid hMD
            clear hMD HNX3 hca
            go_upto_region 9 with fail
            refine plain_ (fun wq => Below w.heap.size w wq) (fun _ => True) reg_25_9 rfl (fun _ _ h k => below_then h h.size k) (fun _ _ _ _ => trivial) HB.out trivial ?_
            refine w_move (.inl rfl) (fun vs w hK => ⟨wants_none rfl, rho_out rfl rfl⟩) ?_
            refine w_val [(36, _)] _ (fun vs w hK => ⟨wants_none rfl, rho_in rfl (fv (hK 0 (by decide))), trivial⟩) rfl (fun wq hI => by simp only [execOp, Option.map_some, Option.map_none, lk_tmp, lk_const, lkT_cons, ↓reduceIte, Nat.reduceEqDiff]; go_simp; (first | done | rfl)) ?_
            refine w_call [(37, _)] _ _ (by decide) (fun vs w hK => ⟨wants_none rfl, rho_in rfl (fv (hK 1 (by decide))), trivial⟩) rfl rfl Tryd.func30 (by kernel_rfl) rfl (fun wq hI => CL12.out wq hI) (by first | (simp only [List.map_toArray, List.map_cons, List.map_nil]; done) | (simp only [List.map_toArray, List.map_cons, List.map_nil]; rfl)) ?_
            refine w_val [(38, _)] (_) (fun vs w hK => ⟨wants_none rfl, rho_in rfl (fv (hK 2 (by decide))), trivial⟩) rfl (fun wq hI => by simp only [execOp, lk_tmp, lk_const, lkT_cons, ↓reduceIte, Nat.reduceEqDiff]; go_simp; rw [hW12.out]) ?_
            refine w_move (.inl rfl) (fun vs w hK => ⟨wants_none rfl, rho_out rfl rfl⟩) ?_
            refine w_call [(40, _)] _ _ (by decide) (fun vs w hK => ⟨wants_none rfl, rho_in rfl (fv (hK 4 (by decide))), trivial⟩) rfl rfl Tryd.func16 (by kernel_rfl) rfl (fun wq hI => CSD.out wq hI) (by first | (simp only [List.map_toArray, List.map_cons, List.map_nil]; done) | (simp only [List.map_toArray, List.map_cons, List.map_nil]; rfl)) ?_
            refine w_call [(41, _)] _ _ (by decide) (fun vs w hK => ⟨wants_none rfl, rho_in rfl (fv (hK 5 (by decide))), trivial⟩) rfl rfl Tryd.func19 (by kernel_rfl) rfl (fun wq hI => CMD.out wq) (by first | (simp only [List.map_toArray, List.map_cons, List.map_nil]; done) | (simp only [List.map_toArray, List.map_cons, List.map_nil]; rfl)) ?_
            refine w_val [(39, _), (42, _)] (_) (fun vs w hK => ⟨wants_none rfl, rho_in rfl (fv (hK 3 (by decide))), rho_in rfl (fv (hK 6 (by decide))), trivial⟩) rfl (fun wq hI => by exact run_int_neq (r := false) rfl rfl rfl (by rw [HMD.out]; simp)) ?_
            refine w_end rfl rfl rfl (fun vs wq hI hF => ?_)
            simp only [List.reverse_cons, List.reverse_nil, List.nil_append, List.cons_append, finL_val, finL_of, finL_any, finL_app, finL_new, finL_gr, finL_row, finL_box, finL_nil, Act.put, List.setIfInBounds_toArray, List.set_cons_zero, List.set_cons_succ, Nat.reduceAdd]
            have HB2 := Lib.hid hI
            clear hI hF
            have hwi : IntKind.i64.wrap (N : Int) = (N : Int) := by rw [IntKind.wrap_i64]; omega
            go_wp2_with (at_builtin; refine gapp_row tb rfl (.const (.slice none 0 0)) (.tmp 44) rfl rfl rfl (gr_nil 5 wq w.heap.size) (HD.out wq HB2.out) HB2.out HB2.out.size ?cL ?_; (case cL => simp; omega); intro v4 w4 ho hb1 hs1 hf; have HO4 : Hid (GrB w4 w.heap.size v4 ([] ++ D)) := Lib.hid ho; have HB4 : Hid (Below w.heap.size w w4) := Lib.hid hb1; clear ho hb1 hs1 hf)
            go_ret3
            refine ⟨_, by rw [HF.out]; rfl, by rw [HF.out]; exact HO4.out, HB4.out⟩
          · have HF : Hid (next l = ([], 0, 12)) := Lib.hid (by rw [HNX3.out, if_pos hMD])
            have HMD := Lib.hid hMD
            clear hMD HNX3 hca
            go_upto_region 9 with fail
            refine plain_ (fun wq => Below w.heap.size w wq) (fun _ => True) reg_25_9 rfl (fun _ _ h k => below_then h h.size k) (fun _ _ _ _ => trivial) HB.out trivial ?_
            refine w_move (.inl rfl) (fun vs w hK => ⟨wants_none rfl, rho_out rfl rfl⟩) ?_
            refine w_val [(36, _)] _ (fun vs w hK => ⟨wants_none rfl, rho_in rfl (fv (hK 0 (by decide))), trivial⟩) rfl (fun wq hI => by simp only [execOp, Option.map_some, Option.map_none, lk_tmp, lk_const, lkT_cons, ↓reduceIte, Nat.reduceEqDiff]; go_simp; (first | done | rfl)) ?_
            refine w_call [(37, _)] _ _ (by decide) (fun vs w hK => ⟨wants_none rfl, rho_in rfl (fv (hK 1 (by decide))), trivial⟩) rfl rfl Tryd.func30 (by kernel_rfl) rfl (fun wq hI => CL12.out wq hI) (by first | (simp only [List.map_toArray, List.map_cons, List.map_nil]; done) | (simp only [List.map_toArray, List.map_cons, List.map_nil]; rfl)) ?_
            refine w_val [(38, _)] (_) (fun vs w hK => ⟨wants_none rfl, rho_in rfl (fv (hK 2 (by decide))), trivial⟩) rfl (fun wq hI => by simp only [execOp, lk_tmp, lk_const, lkT_cons, ↓reduceIte, Nat.reduceEqDiff]; go_simp; rw [hW12.out]) ?_
            refine w_move (.inl rfl) (fun vs w hK => ⟨wants_none rfl, rho_out rfl rfl⟩) ?_
            refine w_call [(40, _)] _ _ (by decide) (fun vs w hK => ⟨wants_none rfl, rho_in rfl (fv (hK 4 (by decide))), trivial⟩) rfl rfl Tryd.func16 (by kernel_rfl) rfl (fun wq hI => CSD.out wq hI) (by first | (simp only [List.map_toArray, List.map_cons, List.map_nil]; done) | (simp only [List.map_toArray, List.map_cons, List.map_nil]; rfl)) ?_
            refine w_call [(41, _)] _ _ (by decide) (fun vs w hK => ⟨wants_none rfl, rho_in rfl (fv (hK 5 (by decide))), trivial⟩) rfl rfl Tryd.func19 (by kernel_rfl) rfl (fun wq hI => CMD.out wq) (by first | (simp only [List.map_toArray, List.map_cons, List.map_nil]; done) | (simp only [List.map_toArray, List.map_cons, List.map_nil]; rfl)) ?_
            refine w_val [(39, _), (42, _)] (_) (fun vs w hK => ⟨wants_none rfl, rho_in rfl (fv (hK 3 (by decide))), rho_in rfl (fv (hK 6 (by decide))), trivial⟩) rfl (fun wq hI => by exact run_int_neq (r := true) rfl rfl rfl (by have := HMD.out; simp; omega)) ?_
            refine w_end rfl rfl rfl (fun vs wq hI hF => ?_)
            simp only [List.reverse_cons, List.reverse_nil, List.nil_append, List.cons_append, finL_val, finL_of, finL_any, finL_app, finL_new, finL_gr, finL_row, finL_box, finL_nil, Act.put, List.setIfInBounds_toArray, List.set_cons_zero, List.set_cons_succ, Nat.reduceAdd]
            have HB2 := Lib.hid hI
            clear hI hF
            go_wp2_with fail
            go_ret3
            exact ⟨_, by rw [HF.out]; rfl, by rw [HF.out]; exact gr_nil _ _ _, HB2.out⟩
    · have HF : Hid (next l = ([], 0, 12)) := Lib.hid (by rw [HNX.out, if_pos (.inl hMK)])
      have HK := Lib.hid hMK
      clear hMK
      refine draws_ (fun wq => Below w.heap.size w wq) (fun _ => True) (by kernel_rfl) reg_25_4 rfl (fun _ _ h k => below_then h h.size k) (fun _ _ _ _ => trivial) (below_drew HB1.out) trivial ?_
      refine w_move (.inl rfl) (fun vs w hK => ⟨wants_none rfl, rho_out rfl rfl⟩) ?_
      refine w_val [(13, _)] _ (fun vs w hK => ⟨wants_none rfl, rho_in rfl (fv (hK 0 (by decide))), trivial⟩) rfl (fun wq hI => by simp only [execOp, Option.map_some, Option.map_none, lk_tmp, lk_const, lkT_cons, ↓reduceIte, Nat.reduceEqDiff]; go_simp; (first | done | rfl)) ?_
      refine w_call [(14, _)] _ _ (by decide) (fun vs w hK => ⟨wants_none rfl, rho_in rfl (fv (hK 1 (by decide))), trivial⟩) rfl rfl Tryd.func30 (by kernel_rfl) rfl (fun wq hI => CL8.out wq hI) (by first | (simp only [List.map_toArray, List.map_cons, List.map_nil]; done) | (simp only [List.map_toArray, List.map_cons, List.map_nil]; rfl)) ?_
      refine w_val [(15, _)] (_) (fun vs w hK => ⟨wants_none rfl, rho_in rfl (fv (hK 2 (by decide))), trivial⟩) rfl (fun wq hI => by simp only [execOp, lk_tmp, lk_const, lkT_cons, ↓reduceIte, Nat.reduceEqDiff]; go_simp; rw [hW8.out]) ?_
      refine w_move (.inl rfl) (fun vs w hK => ⟨wants_none rfl, rho_out rfl rfl⟩) ?_
      refine w_val [(17, _)] _ (fun vs w hK => ⟨wants_none rfl, rho_in rfl (fv (hK 4 (by decide))), trivial⟩) rfl (fun wq hI => by simp only [execOp, Option.map_some, Option.map_none, lk_tmp, lk_const, lkT_cons, ↓reduceIte, Nat.reduceEqDiff]; go_simp; (first | done | rfl)) ?_
      refine w_call [(18, _)] _ _ (by decide) (fun vs w hK => ⟨wants_none rfl, rho_in rfl (fv (hK 5 (by decide))), trivial⟩) rfl rfl Tryd.func16 (by kernel_rfl) rfl (fun wq hI => CS4.out wq hI) (by first | (simp only [List.map_toArray, List.map_cons, List.map_nil]; done) | (simp only [List.map_toArray, List.map_cons, List.map_nil]; rfl)) ?_
      refine w_call [(19, _)] _ _ (by decide) (fun vs w hK => ⟨wants_none rfl, rho_in rfl (fv (hK 6 (by decide))), trivial⟩) rfl rfl Tryd.func19 (by kernel_rfl) rfl (fun wq hI => CM4.out wq) (by first | (simp only [List.map_toArray, List.map_cons, List.map_nil]; done) | (simp only [List.map_toArray, List.map_cons, List.map_nil]; rfl)) ?_
      refine w_val [(16, _), (20, _)] (_) (fun vs w hK => ⟨wants_none rfl, rho_in rfl (fv (hK 3 (by decide))), rho_in rfl (fv (hK 7 (by decide))), trivial⟩) rfl (fun wq hI => by exact run_int_neq (r := true) rfl rfl rfl (by have := HK.out; simp; omega)) ?_
      refine w_move (.inl rfl) (fun vs w hK => ⟨wants_none rfl, rho_in rfl (fv (hK 8 (by decide)))⟩) ?_
      refine w_not (fun vs wq hK => wants_not rfl (fv (hK 9 (by decide)))) ?_
      refine w_not (fun vs wq hK => wants_not rfl (fv (hK 9 (by decide)))) ?_
      refine w_pick (b := true) rfl (fun vs w hK => ⟨wants_none rfl, (rho_in rfl (fv (hK 9 (by decide)))), rho_const⟩) ?_
      refine w_end rfl rfl rfl (fun vs wq hI hF => ?_)
      simp only [List.reverse_cons, List.reverse_nil, List.nil_append, List.cons_append, finL_val, finL_of, finL_any, finL_app, finL_new, finL_gr, finL_row, finL_box, finL_nil, Act.put, List.setIfInBounds_toArray, List.set_cons_zero, List.set_cons_succ, Nat.reduceAdd]
      have HB := Lib.hid hI
      clear hI hF
      go_wp2_with fail
      go_ret3
      exact ⟨_, by rw [HF.out]; rfl, by rw [HF.out]; exact gr_nil _ _ _, HB.out⟩
end Go.Proofs.YtakjmhcdmchgdaaDoor.Rec

