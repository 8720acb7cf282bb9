/- ParseTx; rows put together again out of what was parsed. -/
import Derived.Test.YtglkagicmolbeaaRowsI
namespace Go.Proofs.Ytglkagicmolbeaa.Rw
set_option linter.unusedVariables false
set_option linter.unusedSimpArgs false
open Go.Proofs.Ytglkagicmolbeaa.Kit Go.Proofs.Ytglkagicmolbeaa.Num Go.RowKit Go.Proofs.YtglkagicmolbeaaW.PrintWords Go.Proofs.YtglkagicmolbeaaW.PrintLast Go.Proofs.YtglkagicmolbeaaW.PrintMore NumPure
theorem results_tmp4 {fn : Func} {t u v x : Tmp} (h : fn.results = #[.tmp t, .tmp u, .tmp v, .tmp x]) (tmps : Array Value) (P : Program) (w : World) :
    (results fn tmps).run P w = .ok (.tuple #[tmps.getD t undef, tmps.getD u undef, tmps.getD v undef, tmps.getD x undef]) w := by
  simp [results, h]
/-- What four bytes say, laid again. -/
theorem be_A4 (s : ByteArray) (i : Nat) (h : i + 4 ≤ s.size) : be (A4 s i) 4 = ((numsOf s).drop i).take 4 := by
  have hl := cut_len s i 4 h
  have := be_beVal _ (cut_isByte s i 4)
  rw [hl] at this
  exact this
theorem F4_A4 (s : ByteArray) (i : Nat) (h : i + 4 ≤ s.size) : F4 ((A4 s i : Nat) : Int) = s.extract i (i + 4) := by
  refine numsOf_inj ?_
  unfold F4
  rw [U_nat _ (A4_lt s i h), numsOf_strOfNums _ (be_byte _ _), be_A4 s i h, numsOf_extract, show i + 4 - i = 4 by omega]
theorem ext_cat (s : ByteArray) (i j k : Nat) (h1 : i ≤ j) (h2 : j ≤ k) (h3 : k ≤ s.size) : s.extract i j ++ s.extract j k = s.extract i k := by
  refine numsOf_inj ?_
  rw [numsOf_append, numsOf_extract, numsOf_extract, numsOf_extract]
  have e : k - i = (j - i) + (k - j) := by omega
  rw [e, List.take_add, List.drop_drop, show i + (j - i) = j by omega]
theorem ext_all (s : ByteArray) : s.extract 0 s.size = s := by
  refine numsOf_inj ?_
  rw [numsOf_extract, List.drop_zero, Nat.sub_zero, ← numsOf_length, List.take_length]
theorem str_cut (s : ByteArray) (i k : Nat) (h : i + k ≤ s.size) : strOfNums (((numsOf s).drop i).take k) = s.extract i (i + k) := by
  refine numsOf_inj ?_
  rw [numsOf_strOfNums _ (Byte.take (Byte.drop (numsOf_byte s) _) _), numsOf_extract, show i + k - i = k by omega]
theorem str_H32 (s : ByteArray) (h : 32 ≤ s.size) : strOfNums (H32 s) = s.extract 0 32 := by
  have := str_cut s 0 32 (by omega)
  rwa [List.drop_zero] at this
theorem re_N (s : ByteArray) (h : s.size = 4) : F4 ((A4 s 0 : Nat) : Int) = s := by
  rw [F4_A4 s 0 (by omega), show 0 + 4 = s.size by omega, ext_all]
theorem re_S (s : ByteArray) (h : s.size = 40) : SR (H32 s) (A4 s 32 : Nat) (A4 s 36 : Nat) = s := by
  unfold SR
  rw [str_H32 s (by omega), F4_A4 s 32 (by omega), F4_A4 s 36 (by omega), ext_cat s 0 32 36 (by omega) (by omega) (by omega), ext_cat s 0 36 40 (by omega) (by omega) (by omega), ← h, ext_all]
theorem be_U8_C8 (s : ByteArray) (h : 8 ≤ s.size) : be (U8 (C8 s)) 8 = (numsOf s).take 8 := by
  have hl : ((numsOf s).take 8).length = 8 := by rw [List.length_take, numsOf_length]; omega
  have hb : Byte ((numsOf s).take 8) := Byte.take (numsOf_byte s) _
  have hlt := beVal_lt hb
  rw [hl] at hlt
  have e : U8 (C8 s) = beVal ((numsOf s).take 8) := by
    unfold C8 U8
    rw [IntKind.wrap_i64]
    omega
  rw [e]
  have := be_beVal _ hb
  rwa [hl] at this
theorem re_C (s : ByteArray) (h : s.size = 48) : CR (C8 s) (HC s) (A4 s 40 : Nat) (A4 s 44 : Nat) = s := by
  unfold CR HC
  have e1 : strOfNums ((numsOf s).take 8) = s.extract 0 8 := by
    have := str_cut s 0 8 (by omega)
    rwa [List.drop_zero] at this
  rw [be_U8_C8 s (by omega), e1, str_cut s 8 32 (by omega), F4_A4 s 40 (by omega), F4_A4 s 44 (by omega), ext_cat s 0 8 40 (by omega) (by omega) (by omega), ext_cat s 0 40 44 (by omega) (by omega) (by omega), ext_cat s 0 44 48 (by omega) (by omega) (by omega), ← h, ext_all]
/-- What ParseTx tells. -/
def TX (s : ByteArray) : Nat × Nat × List Int × Nat := if 8 ≤ s.size then (A4 s 0, A4 s 4, (numsOf s).drop 8, 0) else (0, 0, [], 12)
theorem reg_53_3 : RegOk (opsOf Try.f53 3) [[], [0], [], [0, 1, 2], [], [4], [4, 5], [0, 1, 2, 3], [0, 1, 2, 3, 7], [0, 1, 2, 3, 4, 5, 6, 7, 8], [0, 1, 2, 3, 4, 5, 6, 7, 8, 9]] [] [some 9, some 10, some 11, some 12, some 13, some 14, some 15, some 2, some 3, some 4, some 5] := regOk (by kernel_rfl)
set_option maxRecDepth 20000 in
set_option maxHeartbeats 1600000 in
theorem parseTx_any (s : ByteArray) (hs : s.size ≤ 1000000) (w : World) : Calls Try.prog 53 #[.string s] w fun e w' => ∃ A n c, e = .returned (.tuple #[.int .i64 (TX s).1, .int .i64 (TX s).2.1, .slice A n c, .int .i64 (TX s).2.2.2]) ∧ Rds .u8 w' A n (TX s).2.2.1 ∧ Below w.heap.size w w' := by
  by_cases h8 : 8 ≤ s.size
  · have HF : Hid (TX s = (A4 s 0, A4 s 4, (numsOf s).drop 8, 0)) := Lib.hid (by unfold TX; rw [if_pos h8])
    have t1 : decide ((s.size : Int) < 8) = false := decide_eq_false (by omega)
    rw [HF.out]
    obtain ⟨T, hT⟩ : ∃ T, T = s.extract 8 s.size := ⟨_, rfl⟩
    have hTn : numsOf T = (numsOf s).drop 8 := by rw [hT, numsOf_extract]; exact List.take_of_length_le (by rw [List.length_drop, numsOf_length]; omega)
    have hTs : T.size ≤ 1000000 := by rw [← numsOf_length, hTn, List.length_drop, numsOf_length]; omega
    have C1 := Lib.hid (fun wq => at_any s (by omega) 0 (by omega) wq)
    have C2 := Lib.hid (fun wq => at_any s (by omega) 4 (by omega) wq)
    rw [← hTn]
    generalize A4 s 0 = a at C1
    generalize A4 s 4 = b at C2
    have HTT := Lib.hid hT
    have HTS := Lib.hid hTs
    have H8 := Lib.hid h8
    clear hT hTn hTs HF h8
    go_enter Try.func53, Try.ntmps53
    go_upto_region 3 with fail
    refine draws_ (fun wq => Below w.heap.size w wq) (fun _ => True) (by kernel_rfl) reg_53_3 rfl inv0 (fun _ _ _ _ => trivial) (below_drew (Below.refl _ _)) trivial ?_
    refine w_move (.inl rfl) (fun vs w hK => ⟨wants_none rfl, rho_out rfl rfl⟩) ?_
    refine w_call [(9, _)] _ _ (by decide) (fun vs w hK => ⟨wants_none rfl, rho_in rfl (fv (hK 0 (memE rfl))), trivial⟩) rfl rfl Try.func60 (by kernel_rfl) rfl (fun wq hI => C1.out wq) (margs rfl) ?_
    refine w_move (.inl rfl) (fun vs w hK => ⟨wants_none rfl, rho_out rfl rfl⟩) ?_
    refine w_call [(11, _)] _ _ (by decide) (fun vs w hK => ⟨wants_none rfl, rho_in rfl (fv (hK 2 (memE rfl))), trivial⟩) rfl rfl Try.func60 (by kernel_rfl) rfl (fun wq hI => C2.out wq) (margs rfl) ?_
    refine w_move (.inl rfl) (fun vs w hK => ⟨wants_none rfl, rho_out rfl rfl⟩) ?_
    refine w_val [(13, _)] (.string T) (fun vs w hK => ⟨wants_none rfl, rho_in rfl (fv (hK 4 (memE rfl))), trivial⟩) rfl (fun wq hI => by exact op_cut_from (a := 8) rfl Try.underlying9 rfl rfl rfl H8.out HTT.out.symm) ?_
    refine w_any (FW.row .u8 (numsOf T)) (by decide) (fun vs wq hI hK => ?_) ?_
    · obtain ⟨v1, w2, hrun, hb, ho, _⟩ := conv_bytes (t := 22) Try.underlying9 Try.underlying22 Try.underlying5 wq T (by simp only [maxLen]; have := HTS.out; omega) hI.size
      exact ob_run [(14, _)] (wants_none rfl) ⟨rho_in rfl (fv (hK 5 (memE rfl))), trivial⟩ rfl (run_conv_op rfl rfl hrun) ⟨hb, isRow_gr ho⟩
    refine w_move (.inr rfl) (fun vs w hK => ⟨wants_none rfl, rho_in rfl (fv (hK 1 (memE rfl)))⟩) ?_
    refine w_move (.inr rfl) (fun vs w hK => ⟨wants_none rfl, rho_in rfl (fv (hK 3 (memE rfl)))⟩) ?_
    refine w_any (FW.row .u8 (numsOf T)) (by decide) (fun vs wq hI hK => ?_) ?_
    · exact ob_copy (.inr rfl) (wants_none rfl) (rho_in rfl rfl) ⟨Below.refl _ _, hK 6 (memE rfl)⟩
    refine w_const (.inr rfl) (fun vs w hK => wants_none rfl) ?_
    refine w_end rfl rfl rfl (fun vs wq hI hF => ?_)
    simp only [List.reverse_cons, List.reverse_nil, List.nil_append, List.cons_append, finL_val, finL_of, finL_any, finL_app, finL_new, finL_gr, finL_row, finL_box, finL_nil, Act.put, List.setIfInBounds_toArray, List.set_cons_zero, List.set_cons_succ, Nat.reduceAdd]
    have hrow : IsRow .u8 (numsOf T) (vs 9) wq := hF 9 (by decide) rfl
    obtain ⟨A9, n9, c9, e9, h9c, HL9, h9m, hr9⟩ := hrow
    have HR9 := Lib.hid hr9
    have HB := Lib.hid hI
    rw [e9]
    clear hI hF hr9
    go_wp2_with fail
    (try simp only [Exit.inBlock, Exit.then])
    refine bodyPost_ret (results_tmp4 rfl _ _ _) rfl ?_
    exact ⟨A9, n9, c9, rfl, HR9.out, HB.out⟩
  · have HF : Hid (TX s = (0, 0, [], 12)) := Lib.hid (by unfold TX; rw [if_neg h8])
    have t1 : decide ((s.size : Int) < 8) = true := decide_eq_true (by omega)
    rw [HF.out]
    clear HF h8
    go_enter Try.func53, Try.ntmps53
    go_wp2_with fail
    (try simp only [Exit.inBlock, Exit.then])
    refine bodyPost_ret (results_tmp4 rfl _ _ _) rfl ?_
    exact ⟨none, 0, 0, rfl, rds_nil w none, Below.refl _ _⟩
end Go.Proofs.Ytglkagicmolbeaa.Rw

