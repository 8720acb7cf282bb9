/- The walk of the law RowsKeys. -/
import Derived.Test.YtglkagicmolbeaaRowsD
namespace Go.Proofs.Ytglkagicmolbeaa.Rw
set_option linter.unusedVariables false
set_option linter.unusedSimpArgs false
open Go.Proofs.Ytglkagicmolbeaa.Kit Go.Proofs.Ytglkagicmolbeaa.Num Go.RowKit Go.Proofs.YtglkagicmolbeaaW.PrintWords Go.Proofs.YtglkagicmolbeaaW.PrintLast Go.Proofs.YtglkagicmolbeaaW.PrintMore NumPure
theorem head1 : (⟨#[98]⟩ : ByteArray) ++ F4 1 = ⟨#[98, 0, 0, 0, 1]⟩ := by decide +kernel
theorem CR_size (c : Int) (s : List Int) (hs : s.length = 32) (h p : Int) : (CR c s h p).size = 48 := by unfold CR; simp only [ByteArray.size_append, strOfNums_size, be_length, hs, F4_size]
theorem reg_18_1 : RegOk (opsOf Try.f18 1) [[], [0], [0, 1], [0, 1, 2], [0, 1, 2, 3], [0, 1, 2, 3, 4], [0, 1, 2, 3, 4, 5], [0, 1, 2, 3, 4, 5, 6], [0, 1, 2, 3, 4, 5, 6, 7], [0, 1, 2, 3, 4, 5, 6, 7, 8], [0, 1, 2, 3, 4, 5, 6, 7, 8, 9], [0, 1, 2, 3, 4, 5, 6, 7, 8, 9, 10], [0, 1, 2, 3, 4, 5, 6, 7, 8, 9, 10, 11], [0, 1, 2, 3, 4, 5, 6, 7, 8, 9, 10, 11, 12], [0, 1, 2, 3, 4, 5, 6, 7, 8, 9, 10, 11, 12, 13], [0, 1, 2, 3, 4, 5, 6, 7, 8, 9, 10, 11, 12, 13, 14], [0, 1, 2, 3, 4, 5, 6, 7, 8, 9, 10, 11, 12, 13, 14, 15]] [] [some 1, some 2, some 3, some 4, some 5, some 6, some 7, some 8, some 9, some 10, some 11, some 12, some 13, some 14, some 15, some 16, some 0] := regOk (by kernel_rfl)
set_option maxRecDepth 20000 in
set_option maxHeartbeats 1600000 in
theorem head18_any (w : World) : Calls Try.prog 18 #[] w fun e w' => e = .returned (.bool true) ∧ Below w.heap.size w w' := by
  have CH := Lib.hid (fun w => head_any 1 w)
  rw [head1] at CH
  have CR0 := Lib.hid (fun w => coinRow_any 0 (List.replicate 32 0) (by simp) 0 0 w)
  have hz := CR_size 0 (List.replicate 32 0) (by simp) 0 0
  generalize CR 0 (List.replicate 32 0) 0 0 = S at CR0 hz
  have HZ := Lib.hid hz
  clear hz
  go_enter Try.func18, Try.ntmps18
  go_upto_region 1 with fail
  refine plain_ (fun wq => Below w.heap.size w wq) (fun _ => True) reg_18_1 rfl inv0 (fun _ _ _ _ => trivial) (Below.refl _ _) trivial ?_
  refine w_call [] _ _ (by decide) (fun vs w hK => ⟨wants_none rfl, trivial⟩) rfl rfl Try.func21 (by kernel_rfl) rfl (fun wq hI => CH.out wq) (margs rfl) ?_
  refine w_val [(1, _)] _ (fun vs w hK => ⟨wants_none rfl, rho_in rfl (fv (hK 0 (memE rfl))), trivial⟩) rfl (fun wq hI => run_eql_same rfl rfl rfl rfl) ?_
  refine w_move (.inl rfl) (fun vs w hK => ⟨wants_none rfl, rho_in rfl (fv (hK 1 (memE rfl)))⟩) ?_
  refine w_val [] _ (fun vs w hK => ⟨wants_g rfl (fv (hK 2 (memE rfl))), trivial⟩) rfl (fun wq hI => by simp only [execOp, Option.map_some, Option.map_none, lk_tmp, lk_const, lkT_cons, ↓reduceIte, Nat.reduceEqDiff]; go_simp; (first | done | rfl)) ?_
  refine w_call [(4, _)] _ _ (by decide) (fun vs w hK => ⟨wants_g rfl (fv (hK 2 (memE rfl))), rho_in rfl (fv (hK 3 (memE rfl))), trivial⟩) rfl rfl Try.func42 (by kernel_rfl) rfl (fun wq hI => CR0.out wq) (margs rfl) ?_
  refine w_val [(5, _)] (_) (fun vs w hK => ⟨wants_g rfl (fv (hK 2 (memE rfl))), rho_in rfl (fv (hK 4 (memE rfl))), trivial⟩) rfl (fun wq hI => by exact run_len_str rfl Try.underlying9 rfl (show (S.size : Int) = 48 by rw [HZ.out]; rfl)) ?_
  refine w_val [(6, _)] _ (fun vs w hK => ⟨wants_g rfl (fv (hK 2 (memE rfl))), rho_in rfl (fv (hK 5 (memE rfl))), trivial⟩) rfl (fun wq hI => by simp only [execOp, Option.map_some, Option.map_none, lk_tmp, lk_const, lkT_cons, ↓reduceIte, Nat.reduceEqDiff]; go_simp; (first | done | rfl)) ?_
  refine w_pick (b := true) rfl (fun vs w hK => ⟨wants_none rfl, (rho_in rfl (fv (hK 2 (memE rfl)))), (rho_in rfl (fv (hK 6 (memE rfl))))⟩) ?_
  refine w_move (.inl rfl) (fun vs w hK => ⟨wants_none rfl, rho_in rfl (fv (hK 7 (memE rfl)))⟩) ?_
  refine w_call [] _ _ (by decide) (fun vs w hK => ⟨wants_g rfl (fv (hK 8 (memE rfl))), trivial⟩) rfl rfl Try.func25 (by kernel_rfl) rfl (fun wq hI => tip_any wq) (margs rfl) ?_
  refine w_val [(10, _)] _ (fun vs w hK => ⟨wants_g rfl (fv (hK 8 (memE rfl))), rho_in rfl (fv (hK 9 (memE rfl))), trivial⟩) rfl (fun wq hI => run_eql_same rfl rfl rfl rfl) ?_
  refine w_pick (b := true) rfl (fun vs w hK => ⟨wants_none rfl, (rho_in rfl (fv (hK 8 (memE rfl)))), (rho_in rfl (fv (hK 10 (memE rfl))))⟩) ?_
  refine w_move (.inl rfl) (fun vs w hK => ⟨wants_none rfl, rho_in rfl (fv (hK 11 (memE rfl)))⟩) ?_
  refine w_call [] _ _ (by decide) (fun vs w hK => ⟨wants_g rfl (fv (hK 12 (memE rfl))), trivial⟩) rfl rfl Try.func26 (by kernel_rfl) rfl (fun wq hI => low_any wq) (margs rfl) ?_
  refine w_val [(14, _)] _ (fun vs w hK => ⟨wants_g rfl (fv (hK 12 (memE rfl))), rho_in rfl (fv (hK 13 (memE rfl))), trivial⟩) rfl (fun wq hI => run_eql_same rfl rfl rfl rfl) ?_
  refine w_pick (b := true) rfl (fun vs w hK => ⟨wants_none rfl, (rho_in rfl (fv (hK 12 (memE rfl)))), (rho_in rfl (fv (hK 14 (memE rfl))))⟩) ?_
  refine w_move (.inr rfl) (fun vs w hK => ⟨wants_none rfl, rho_in rfl (fv (hK 15 (memE rfl)))⟩) ?_
  refine w_end rfl rfl rfl (fun vs wq hI hF => ?_)
  simp only [List.reverse_cons, List.reverse_nil, List.nil_append, List.cons_append, finL_val, finL_of, finL_any, finL_app, finL_new, finL_gr, finL_row, finL_box, finL_nil, Act.put, List.setIfInBounds_toArray, List.set_cons_zero, List.set_cons_succ, Nat.reduceAdd]
  have HB := Lib.hid hI
  clear hI hF
  go_wp2_with fail
  go_ret
  exact ⟨rfl, HB.out⟩
theorem reg_6_4 : RegOk (opsOf Try.f6 4) [[], [0], [0, 1], [], [3], [3, 4], [3, 4, 5], [0, 1, 2, 3, 4, 5, 6], [0, 1, 2, 3, 4, 5, 6, 7]] [] [some 17, some 18, some 19, some 20, some 21, some 22, some 23, some 24, some 12] := regOk (by kernel_rfl)
theorem reg_6_5 : RegOk (opsOf Try.f6 5) [[], [0], [], [0, 1, 2], [0, 1, 2, 3], [0, 1, 2, 3, 4], [0, 1, 2, 3, 4, 5], [0, 1, 2, 3, 4, 5, 6], [0, 1, 2, 3, 4, 5, 6, 7], [0, 1, 2, 3, 4, 5, 6], [0, 1, 2, 3, 4, 5, 6, 9], [0, 1, 2, 3, 4, 5, 6, 7, 8, 9, 10], [0, 1, 2, 3, 4, 5, 6, 7, 8, 9, 10, 11], [0, 1, 2, 3, 4, 5, 6, 7, 8, 9, 10, 11, 12], [0, 1, 2, 3, 4, 5, 6, 7, 8, 9, 10, 11, 12, 13], [0, 1, 2, 3, 4, 5, 6, 7, 8, 9, 10, 11, 12, 13], [0, 1, 2, 3, 4, 5, 6, 7, 8, 9, 10, 11, 12, 13, 14, 15], [0, 1, 2, 3, 4, 5, 6, 7, 8, 9, 10, 11, 12, 13], [0, 1, 2, 3, 4, 5, 6, 7, 8, 9, 10, 11, 12, 13, 14, 15, 16, 17], [0, 1, 2, 3, 4, 5, 6, 7, 8, 9, 10, 11, 12, 13, 14, 15, 16, 17, 18], [0, 1, 2, 3, 4, 5, 6, 7, 8, 9, 10, 11, 12, 13], [0, 1, 2, 3, 4, 5, 6, 7, 8, 9, 10, 11, 12, 13, 14, 15, 16, 17, 18, 20], [0, 1, 2, 3, 4, 5, 6, 7, 8, 9, 10, 11, 12, 13, 14, 15, 16, 17, 18, 19, 20, 21], [0, 1, 2, 3, 4, 5, 6, 7, 8, 9, 10, 11, 12, 13, 14, 15, 16, 17, 18, 19, 20, 21, 22], [0, 1, 2, 3, 4, 5, 6, 7, 8, 9, 10, 11, 12, 13, 14, 15, 16, 17, 18, 19, 20, 21, 22, 23]] [] [some 25, some 26, some 27, some 28, some 29, some 30, some 31, some 32, some 33, some 34, some 35, some 36, some 37, some 38, some 39, some 40, some 41, some 42, some 43, some 44, some 45, some 46, some 47, some 48, some 49] := regOk (by kernel_rfl)
theorem reg_6_7 : RegOk (opsOf Try.f6 7) [[], [], [], [0, 1, 2], [], [4], [], [0, 1, 2, 3, 6], [0, 1, 2, 3, 4, 5, 6, 7], [], [0, 1, 2, 3, 6, 7, 9], [0, 1, 2, 3, 4, 5, 6, 7, 8, 9, 10], [0, 1, 2, 3, 4, 5, 6, 7, 8, 9, 10, 11], [0, 1, 2, 3, 4, 5, 6, 7, 8, 9, 10, 11, 12], [0, 1, 2, 3, 4, 5, 6, 7, 8, 9, 10, 11, 12, 13], [0, 1, 2, 3, 4, 5, 6, 7, 8, 9, 10, 11, 12, 13, 14], [0, 1, 2, 3, 4, 5, 6, 7, 8, 9, 10, 11, 12, 13], [0, 1, 2, 3, 4, 5, 6, 7, 8, 9, 10, 11, 12, 13, 16], [0, 1, 2, 3, 4, 5, 6, 7, 8, 9, 10, 11, 12, 13, 14, 15, 16, 17], [0, 1, 2, 3, 4, 5, 6, 7, 8, 9, 10, 11, 12, 13, 14, 15, 16, 17, 18], [0, 1, 2, 3, 4, 5, 6, 7, 8, 9, 10, 11, 12, 13, 14, 15, 16, 17, 18, 19], [0, 1, 2, 3, 4, 5, 6, 7, 8, 9, 10, 11, 12, 13, 14, 15, 16, 17, 18, 19, 20], [0, 1, 2, 3, 4, 5, 6, 7, 8, 9, 10, 11, 12, 13, 14, 15, 16, 17, 18, 19, 20], [0, 1, 2, 3, 4, 5, 6, 7, 8, 9, 10, 11, 12, 13, 14, 15, 16, 17, 18, 19, 20, 21, 22], [0, 1, 2, 3, 4, 5, 6, 7, 8, 9, 10, 11, 12, 13, 14, 15, 16, 17, 18, 19, 20], [0, 1, 2, 3, 4, 5, 6, 7, 8, 9, 10, 11, 12, 13, 14, 15, 16, 17, 18, 19, 20, 24], [0, 1, 2, 3, 4, 5, 6, 7, 8, 9, 10, 11, 12, 13, 14, 15, 16, 17, 18, 19, 20], [0, 1, 2, 3, 4, 5, 6, 7, 8, 9, 10, 11, 12, 13, 14, 15, 16, 17, 18, 19, 20, 24, 25, 26], [0, 1, 2, 3, 4, 5, 6, 7, 8, 9, 10, 11, 12, 13, 14, 15, 16, 17, 18, 19, 20, 21, 22, 23, 24, 25, 26, 27], [0, 1, 2, 3, 4, 5, 6, 7, 8, 9, 10, 11, 12, 13, 14, 15, 16, 17, 18, 19, 20, 21, 22, 23, 24, 25, 26, 27, 28], [0, 1, 2, 3, 4, 5, 6, 7, 8, 9, 10, 11, 12, 13, 14, 15, 16, 17, 18, 19, 20, 21, 22, 23, 24, 25, 26, 27, 28, 29], [0, 1, 2, 3, 4, 5, 6, 7, 8, 9, 10, 11, 12, 13, 14, 15, 16, 17, 18, 19, 20, 21, 22, 23, 24, 25, 26, 27, 28, 29, 30], [0, 1, 2, 3, 4, 5, 6, 7, 8, 9, 10, 11, 12, 13, 14, 15, 16, 17, 18, 19, 20, 21, 22, 23, 24, 25, 26, 27, 28, 29, 30, 31], [0, 1, 2, 3, 4, 5, 6, 7, 8, 9, 10, 11, 12, 13, 14, 15, 16, 17, 18, 19, 20, 21, 22, 23, 24, 25, 26, 27, 28, 29, 30], [0, 1, 2, 3, 4, 5, 6, 7, 8, 9, 10, 11, 12, 13, 14, 15, 16, 17, 18, 19, 20, 21, 22, 23, 24, 25, 26, 27, 28, 29, 30, 33], [0, 1, 2, 3, 4, 5, 6, 7, 8, 9, 10, 11, 12, 13, 14, 15, 16, 17, 18, 19, 20, 21, 22, 23, 24, 25, 26, 27, 28, 29, 30, 31, 32, 33, 34], [0, 1, 2, 3, 4, 5, 6, 7, 8, 9, 10, 11, 12, 13, 14, 15, 16, 17, 18, 19, 20, 21, 22, 23, 24, 25, 26, 27, 28, 29, 30, 31, 32, 33, 34, 35]] [] [some 50, some 51, some 52, some 53, some 54, some 55, some 56, some 57, some 58, some 59, some 60, some 61, some 62, some 63, some 64, some 65, some 66, some 67, some 68, some 69, some 70, some 71, some 72, some 73, some 74, some 75, some 76, some 77, some 78, some 79, some 80, some 81, some 82, some 83, some 84, some 85, some 86] := regOk (by kernel_rfl)
theorem reg_6_9 : RegOk (opsOf Try.f6 9) [[], [0], [], [2], [0, 1, 2, 3], [0, 1, 2, 3, 4], [0, 1, 2, 3, 4, 5], [0, 1, 2, 3, 4, 5, 6], [0, 1, 2, 3, 4, 5, 6, 7], [0, 1, 2, 3, 4, 5], [0, 1, 2, 3, 4, 5, 9], [0, 1, 2, 3, 4, 5, 9, 10], [0, 1, 2, 3, 4, 5, 9, 10, 11], [0, 1, 2, 3, 4, 5, 6, 7, 8, 9, 10, 11, 12], [0, 1, 2, 3, 4, 5, 6, 7, 8, 9, 10, 11, 12, 13], [0, 1, 2, 3, 4, 5, 6, 7, 8, 9, 10, 11, 12, 13, 14], [0, 1, 2, 3, 4, 5, 6, 7, 8, 9, 10, 11, 12, 13, 14, 15], [0, 1, 2, 3, 4, 5, 6, 7, 8, 9, 10, 11, 12, 13, 14, 15, 16], [0, 1, 2, 3, 4, 5, 6, 7, 8, 9, 10, 11, 12, 13, 14, 15], [0, 1, 2, 3, 4, 5, 6, 7, 8, 9, 10, 11, 12, 13, 14, 15, 18], [0, 1, 2, 3, 4, 5, 6, 7, 8, 9, 10, 11, 12, 13, 14, 15, 16, 17, 18, 19], [0, 1, 2, 3, 4, 5, 6, 7, 8, 9, 10, 11, 12, 13, 14, 15, 16, 17, 18, 19, 20], [0, 1, 2, 3, 4, 5, 6, 7, 8, 9, 10, 11, 12, 13, 14, 15, 16, 17, 18, 19, 20, 21], [0, 1, 2, 3, 4, 5, 6, 7, 8, 9, 10, 11, 12, 13, 14, 15, 16, 17, 18, 19, 20, 21, 22], [0, 1, 2, 3, 4, 5, 6, 7, 8, 9, 10, 11, 12, 13, 14, 15, 16, 17, 18, 19, 20, 21, 22], [0, 1, 2, 3, 4, 5, 6, 7, 8, 9, 10, 11, 12, 13, 14, 15, 16, 17, 18, 19, 20, 21, 22], [0, 1, 2, 3, 4, 5, 6, 7, 8, 9, 10, 11, 12, 13, 14, 15, 16, 17, 18, 19, 20, 21, 22, 23, 24, 25], [0, 1, 2, 3, 4, 5, 6, 7, 8, 9, 10, 11, 12, 13, 14, 15, 16, 17, 18, 19, 20, 21, 22], [0, 1, 2, 3, 4, 5, 6, 7, 8, 9, 10, 11, 12, 13, 14, 15, 16, 17, 18, 19, 20, 21, 22, 23, 24, 25, 26, 27], [0, 1, 2, 3, 4, 5, 6, 7, 8, 9, 10, 11, 12, 13, 14, 15, 16, 17, 18, 19, 20, 21, 22, 23, 24, 25, 26, 27, 28], [0, 1, 2, 3, 4, 5, 6, 7, 8, 9, 10, 11, 12, 13, 14, 15, 16, 17, 18, 19, 20, 21, 22], [0, 1, 2, 3, 4, 5, 6, 7, 8, 9, 10, 11, 12, 13, 14, 15, 16, 17, 18, 19, 20, 21, 22, 23, 24, 25, 26, 27, 28, 30], [0, 1, 2, 3, 4, 5, 6, 7, 8, 9, 10, 11, 12, 13, 14, 15, 16, 17, 18, 19, 20, 21, 22, 23, 24, 25, 26, 27, 28, 29, 30, 31], [0, 1, 2, 3, 4, 5, 6, 7, 8, 9, 10, 11, 12, 13, 14, 15, 16, 17, 18, 19, 20, 21, 22], [0, 1, 2, 3, 4, 5, 6, 7, 8, 9, 10, 11, 12, 13, 14, 15, 16, 17, 18, 19, 20, 21, 22, 23, 24, 25, 26, 27, 28, 30, 31, 33], [0, 1, 2, 3, 4, 5, 6, 7, 8, 9, 10, 11, 12, 13, 14, 15, 16, 17, 18, 19, 20, 21, 22, 23, 24, 25, 26, 27, 28, 29, 30, 31, 32, 33, 34], [0, 1, 2, 3, 4, 5, 6, 7, 8, 9, 10, 11, 12, 13, 14, 15, 16, 17, 18, 19, 20, 21, 22, 23, 24, 25, 26, 27, 28, 29, 30, 31, 32, 33, 34, 35], [0, 1, 2, 3, 4, 5, 6, 7, 8, 9, 10, 11, 12, 13, 14, 15, 16, 17, 18, 19, 20, 21, 22, 23, 24, 25, 26, 27, 28, 29, 30, 31, 32, 33, 34, 35, 36], [0, 1, 2, 3, 4, 5, 6, 7, 8, 9, 10, 11, 12, 13, 14, 15, 16, 17, 18, 19, 20, 21, 22, 23, 24, 25, 26, 27, 28, 29, 30, 31, 32, 33, 34, 35, 36, 37], [0, 1, 2, 3, 4, 5, 6, 7, 8, 9, 10, 11, 12, 13, 14, 15, 16, 17, 18, 19, 20, 21, 22, 23, 24, 25, 26, 27, 28, 29, 30, 31, 32, 33, 34, 35, 36, 37, 38], [0, 1, 2, 3, 4, 5, 6, 7, 8, 9, 10, 11, 12, 13, 14, 15, 16, 17, 18, 19, 20, 21, 22, 23, 24, 25, 26, 27, 28, 29, 30, 31, 32, 33, 34, 35, 36, 37, 38, 39], [0, 1, 2, 3, 4, 5, 6, 7, 8, 9, 10, 11, 12, 13, 14, 15, 16, 17, 18, 19, 20, 21, 22, 23, 24, 25, 26, 27, 28, 29, 30, 31, 32, 33, 34, 35, 36, 37, 38], [0, 1, 2, 3, 4, 5, 6, 7, 8, 9, 10, 11, 12, 13, 14, 15, 16, 17, 18, 19, 20, 21, 22, 23, 24, 25, 26, 27, 28, 29, 30, 31, 32, 33, 34, 35, 36, 37, 38, 39, 40, 41], [0, 1, 2, 3, 4, 5, 6, 7, 8, 9, 10, 11, 12, 13, 14, 15, 16, 17, 18, 19, 20, 21, 22, 23, 24, 25, 26, 27, 28, 29, 30, 31, 32, 33, 34, 35, 36, 37, 38, 39, 40, 41, 42], [0, 1, 2, 3, 4, 5, 6, 7, 8, 9, 10, 11, 12, 13, 14, 15, 16, 17, 18, 19, 20, 21, 22, 23, 24, 25, 26, 27, 28, 29, 30, 31, 32, 33, 34, 35, 36, 37, 38, 39, 40, 41, 42, 43], [0, 1, 2, 3, 4, 5, 6, 7, 8, 9, 10, 11, 12, 13, 14, 15, 16, 17, 18, 19, 20, 21, 22, 23, 24, 25, 26, 27, 28, 29, 30, 31, 32, 33, 34, 35, 36, 37, 38, 39, 40, 41, 42, 43, 44], [0, 1, 2, 3, 4, 5, 6, 7, 8, 9, 10, 11, 12, 13, 14, 15, 16, 17, 18, 19, 20, 21, 22, 23, 24, 25, 26, 27, 28, 29, 30, 31, 32, 33, 34, 35, 36, 37, 38, 39, 40, 41, 42, 43, 44, 45], [0, 1, 2, 3, 4, 5, 6, 7, 8, 9, 10, 11, 12, 13, 14, 15, 16, 17, 18, 19, 20, 21, 22, 23, 24, 25, 26, 27, 28, 29, 30, 31, 32, 33, 34, 35, 36, 37, 38, 39, 40, 41, 42, 43, 44, 45, 46], [0, 1, 2, 3, 4, 5, 6, 7, 8, 9, 10, 11, 12, 13, 14, 15, 16, 17, 18, 19, 20, 21, 22, 23, 24, 25, 26, 27, 28, 29, 30, 31, 32, 33, 34, 35, 36, 37, 38, 39, 40, 41, 42, 43, 44, 45, 46, 47], [0, 1, 2, 3, 4, 5, 6, 7, 8, 9, 10, 11, 12, 13, 14, 15, 16, 17, 18, 19, 20, 21, 22, 23, 24, 25, 26, 27, 28, 29, 30, 31, 32, 33, 34, 35, 36, 37, 38, 39, 40, 41, 42, 43, 44, 45, 46], [0, 1, 2, 3, 4, 5, 6, 7, 8, 9, 10, 11, 12, 13, 14, 15, 16, 17, 18, 19, 20, 21, 22, 23, 24, 25, 26, 27, 28, 29, 30, 31, 32, 33, 34, 35, 36, 37, 38, 39, 40, 41, 42, 43, 44, 45, 46, 47, 48, 49], [0, 1, 2, 3, 4, 5, 6, 7, 8, 9, 10, 11, 12, 13, 14, 15, 16, 17, 18, 19, 20, 21, 22, 23, 24, 25, 26, 27, 28, 29, 30, 31, 32, 33, 34, 35, 36, 37, 38, 39, 40, 41, 42, 43, 44, 45, 46, 47, 48, 49, 50], [0, 1, 2, 3, 4, 5, 6, 7, 8, 9, 10, 11, 12, 13, 14, 15, 16, 17, 18, 19, 20, 21, 22, 23, 24, 25, 26, 27, 28, 29, 30, 31, 32, 33, 34, 35, 36, 37, 38, 39, 40, 41, 42, 43, 44, 45, 46, 47, 48, 49, 50, 51], [0, 1, 2, 3, 4, 5, 6, 7, 8, 9, 10, 11, 12, 13, 14, 15, 16, 17, 18, 19, 20, 21, 22, 23, 24, 25, 26, 27, 28, 29, 30, 31, 32, 33, 34, 35, 36, 37, 38, 39, 40, 41, 42, 43, 44, 45, 46, 47, 48, 49, 50, 51, 52]] [] [some 87, some 88, some 89, some 90, some 91, some 92, some 93, some 94, some 95, some 96, some 97, some 98, some 99, some 100, some 101, some 102, some 103, some 104, some 105, some 106, some 107, some 108, some 109, some 110, some 111, some 112, some 113, some 114, some 115, some 116, some 117, some 118, some 119, some 120, some 121, some 122, some 123, some 124, some 125, some 126, some 127, some 128, some 129, some 130, some 131, some 132, some 133, some 134, some 135, some 136, some 137, some 138, some 139, some 10] := regOk (by kernel_rfl)
set_option maxRecDepth 40000 in
set_option maxHeartbeats 3200000 in
theorem keys_any (h : List Int) (hh : h.length = 32) (id : List Int) (hid : id.length = 32) (out : Int) (ho : 0 ≤ out ∧ out < 4294967296) (a b c : Int) (w : World) :
    Calls Try.prog 6 #[.agg (nums .u8 h).toArray, .agg (pt id out).toArray, .int .i64 a, .int .i64 b, .int .i64 c] w fun e w' => e = .returned (.bool true) ∧ Below w.heap.size w w' := by
  have HN : Hid ((nums .u8 h).length = 32) := Lib.hid (by simp [nums, hh])
  have HL : Hid ((pt id out).length = 33) := Lib.hid (by simp [pt, nums, hid])
  have HI := Lib.hid hid
  have HH := Lib.hid hh
  have hzh : (strOfNums h).size = 32 := by rw [strOfNums_size]; exact hh
  have hzi : (strOfNums id).size = 32 := by rw [strOfNums_size]; exact hid
  have HZH := Lib.hid hzh
  have HZI := Lib.hid hzi
  have HW := Lib.hid (i64_u32 ho)
  have HO := Lib.hid ho
  have C0 := Lib.hid (fun w => head18_any w)
  clear hid hh hzh hzi ho
  go_enter Try.func6, Try.ntmps6
  go_upto_region 1 with fail
  have hg2 : ((w.alloc (.cells (nums .u8 h).toArray 32)).alloc (.cells (pt id out).toArray 39)).heap[w.heap.size + 1]? = some (.cells (pt id out).toArray 39) := by
    have hq := heap_alloc_new (w.alloc (.cells (nums .u8 h).toArray 32)) (.cells (pt id out).toArray 39)
    rwa [show (w.alloc (.cells (nums .u8 h).toArray 32)).heap.size = w.heap.size + 1 by simp] at hq
  have hg1 : ((w.alloc (.cells (nums .u8 h).toArray 32)).alloc (.cells (pt id out).toArray 39)).heap[w.heap.size]? = some (.cells (nums .u8 h).toArray 32) := (heap_alloc_old _ _ (by simp)).trans (heap_alloc_new w _)
  have hb1 : Below w.heap.size w ((w.alloc (.cells (nums .u8 h).toArray 32)).alloc (.cells (pt id out).toArray 39)) := below_alloc (below_alloc (Below.refl _ _) _) _
  generalize (w.alloc (.cells (nums .u8 h).toArray 32)).alloc (.cells (pt id out).toArray 39) = W at hg1 hg2 hb1 ⊢
  have HG1 : Hid (w.heap.size < W.heap.size ∧ W.heap[w.heap.size]? = some (.cells (nums .u8 h).toArray 32)) := Lib.hid ⟨mk_lt hg1, hg1⟩
  have HG2 : Hid (w.heap.size + 1 < W.heap.size ∧ W.heap[w.heap.size + 1]? = some (.cells (pt id out).toArray 39)) := Lib.hid ⟨mk_lt hg2, hg2⟩
  have HB1 := Lib.hid hb1
  clear hg1 hg2 hb1
  go_wp2_with fail
  refine (C0.out W).mono ?_
  rintro e w1 ⟨rfl, hb⟩
  have hG1 : w1.heap[w.heap.size]? = some (.cells (nums .u8 h).toArray 32) := (hb.block _ HG1.out.1).trans HG1.out.2
  have hG2 : w1.heap[w.heap.size + 1]? = some (.cells (pt id out).toArray 39) := (hb.block _ HG2.out.1).trans HG2.out.2
  have HB2 := Lib.hid (below_then HB1.out HB1.out.size hb)
  have HQ1 : Hid (w.heap.size < w1.heap.size ∧ w1.heap[w.heap.size]? = some (.cells (nums .u8 h).toArray 32)) := Lib.hid ⟨mk_lt hG1, hG1⟩
  have HQ2 : Hid (w.heap.size + 1 < w1.heap.size ∧ w1.heap[w.heap.size + 1]? = some (.cells (pt id out).toArray 39)) := Lib.hid ⟨mk_lt hG2, hG2⟩
  have hcv := conv_rds (c := 32) (dst := 9) tb Try.underlying5 Try.underlying9 (rds_block (o := 0) hG1 (by rw [List.drop_zero, List.take_of_length_le (by rw [HN.out]; omega)]) HH.out (by omega) : Rds .u8 w1 _ 32 h)
  clear hG1 hG2 hb HG1 HG2 HB1 C0
  go_upto_region 4 with fail
  clear hcv
  refine draws_ (fun wq => Below w1.heap.size w1 wq) (fun _ => True) (by kernel_rfl) reg_6_4 rfl inv0 (fun _ _ _ _ => trivial) (below_drew (Below.refl _ _)) trivial ?_
  refine w_val [(6, _)] _ (fun vs w hK => ⟨wants_none rfl, rho_out rfl rfl, trivial⟩) rfl (fun wq hI => by simp only [execOp, Option.map_some, Option.map_none, lk_tmp, lk_const, lkT_cons, ↓reduceIte, Nat.reduceEqDiff]; go_simp; (first | done | rfl)) ?_
  refine w_val [(17, _)] _ (fun vs w hK => ⟨wants_none rfl, rho_in rfl (fv (hK 0 (memE rfl))), trivial⟩) rfl (fun wq hI => by simp only [execOp, Option.map_some, Option.map_none, lk_tmp, lk_const, lkT_cons, ↓reduceIte, Nat.reduceEqDiff]; go_simp; (first | done | rfl)) ?_
  refine w_val [(18, _)] (_) (fun vs w hK => ⟨wants_none rfl, rho_in rfl (fv (hK 1 (memE rfl))), trivial⟩) rfl (fun wq hI => by exact run_conv_op rfl rfl (conv_rds (c := 32) (dst := 9) tb Try.underlying5 Try.underlying9 (rds_block (o := 0) ((hI.block _ HQ2.out.1).trans HQ2.out.2) (by simp [pt, nums, ← HI.out]) HI.out (by omega) : Rds .u8 wq _ 32 id))) ?_
  refine w_val [(6, _)] _ (fun vs w hK => ⟨wants_none rfl, rho_out rfl rfl, trivial⟩) rfl (fun wq hI => by simp only [execOp, Option.map_some, Option.map_none, lk_tmp, lk_const, lkT_cons, ↓reduceIte, Nat.reduceEqDiff]; go_simp; (first | done | rfl)) ?_
  refine w_val [(20, _)] (_) (fun vs w hK => ⟨wants_none rfl, rho_in rfl (fv (hK 3 (memE rfl))), trivial⟩) rfl (fun wq hI => by have hc : wq.cell? ⟨w.heap.size + 1, 32, none⟩ = some (.int .u32 out) := cell_of_row _ _ 32 _ _ _ ((hI.block _ HQ2.out.1).trans HQ2.out.2) |>.trans (pt_at HI.out); simp only [execOp, lk_tmp, lk_const, lkT_cons, ↓reduceIte, Nat.reduceEqDiff]; go_simp; rfl) ?_
  refine w_val [(21, _)] (_) (fun vs w hK => ⟨wants_none rfl, rho_in rfl (fv (hK 4 (memE rfl))), trivial⟩) rfl (fun wq hI => by simp only [execOp, lk_tmp, lk_const, lkT_cons, ↓reduceIte, Nat.reduceEqDiff]; go_simp; rw [HW.out]) ?_
  refine w_call [(22, _)] _ _ (by decide) (fun vs w hK => ⟨wants_none rfl, rho_in rfl (fv (hK 5 (memE rfl))), trivial⟩) rfl rfl Try.func29 (by kernel_rfl) rfl (fun wq hI => lawfour_any out wq) (margs rfl) ?_
  refine w_val [(19, _), (23, _)] _ (fun vs w hK => ⟨wants_none rfl, rho_in rfl (fv (hK 2 (memE rfl))), rho_in rfl (fv (hK 6 (memE rfl))), trivial⟩) rfl (fun wq hI => run_cat_op rfl rfl rfl (by simp only [ByteArray.size_append, szc, F4_size, HZH.out, HZI.out]; omega)) ?_
  refine w_move (.inr rfl) (fun vs w hK => ⟨wants_none rfl, rho_in rfl (fv (hK 7 (memE rfl)))⟩) ?_
  refine w_end rfl rfl rfl (fun vs wq hI hF => ?_)
  simp only [List.reverse_cons, List.reverse_nil, List.nil_append, List.cons_append, finL_val, finL_of, finL_any, finL_app, finL_new, finL_gr, finL_row, finL_box, finL_nil, Act.put, List.setIfInBounds_toArray, List.set_cons_zero, List.set_cons_succ, Nat.reduceAdd]
  clear hF
  have hI1 := hI
  clear hI
  have HI1 := Lib.hid hI1
  clear hI1
  go_upto_region 5 with fail
  refine plain_ (fun w' => Below w1.heap.size w1 w') (fun _ => True) reg_6_5 rfl inv0 (fun _ _ _ _ => trivial) HI1.out trivial ?_
  refine w_move (.inl rfl) (fun vs w hK => ⟨wants_none rfl, rho_out rfl rfl⟩) ?_
  refine w_call [(25, _)] _ _ (by decide) (fun vs w hK => ⟨wants_none rfl, rho_in rfl (fv (hK 0 (memE rfl))), trivial⟩) rfl rfl Try.func21 (by kernel_rfl) rfl (fun wq hI => head_any a wq) (margs rfl) ?_
  refine w_move (.inl rfl) (fun vs w hK => ⟨wants_none rfl, rho_out rfl rfl⟩) ?_
  refine w_call [(27, _)] _ _ (by decide) (fun vs w hK => ⟨wants_none rfl, rho_in rfl (fv (hK 2 (memE rfl))), trivial⟩) rfl rfl Try.func29 (by kernel_rfl) rfl (fun wq hI => lawfour_any a wq) (margs rfl) ?_
  refine w_val [(28, _)] _ (fun vs w hK => ⟨wants_none rfl, rho_in rfl (fv (hK 3 (memE rfl))), trivial⟩) rfl (fun wq hI => run_cat_op rfl rfl rfl (by simp only [ByteArray.size_append, szc, F4_size, HZH.out, HZI.out]; omega)) ?_
  refine w_val [(26, _), (29, _)] _ (fun vs w hK => ⟨wants_none rfl, rho_in rfl (fv (hK 1 (memE rfl))), rho_in rfl (fv (hK 4 (memE rfl))), trivial⟩) rfl (fun wq hI => run_neq_same rfl rfl rfl rfl) ?_
  refine w_move (.inl rfl) (fun vs w hK => ⟨wants_none rfl, rho_in rfl (fv (hK 5 (memE rfl)))⟩) ?_
  refine w_val [(5, _)] (_) (fun vs w hK => ⟨wants_g rfl (fv (hK 6 (memE rfl))), rho_out rfl rfl, trivial⟩) rfl (fun wq hI => by exact run_load_op rfl rfl (run_loadAt_mid wq _ 0 32 (nums .u8 h) _ (range_block ((hI.block _ HQ1.out.1).trans HQ1.out.2)) Try.underlying32 rfl (by rw [HN.out]; kernel_rfl))) ?_
  refine w_call [(32, _)] _ _ (by decide) (fun vs w hK => ⟨wants_g rfl (fv (hK 6 (memE rfl))), rho_in rfl (fv (hK 7 (memE rfl))), trivial⟩) rfl rfl Try.func27 (by kernel_rfl) rfl (fun wq hI => tx_any h HH.out wq) (margs rfl) ?_
  refine w_move (.inl rfl) (fun vs w hK => ⟨wants_g rfl (fv (hK 6 (memE rfl))), rho_out rfl rfl⟩) ?_
  refine w_val [(34, _)] _ (fun vs w hK => ⟨wants_g rfl (fv (hK 6 (memE rfl))), rho_in rfl (fv (hK 9 (memE rfl))), trivial⟩) rfl (fun wq hI => run_cat_op rfl rfl rfl (by simp only [ByteArray.size_append, szc, F4_size, HZH.out, HZI.out]; omega)) ?_
  refine w_val [(33, _), (35, _)] _ (fun vs w hK => ⟨wants_g rfl (fv (hK 6 (memE rfl))), rho_in rfl (fv (hK 8 (memE rfl))), rho_in rfl (fv (hK 10 (memE rfl))), trivial⟩) rfl (fun wq hI => run_neq_same rfl rfl rfl rfl) ?_
  refine w_pick (b := false) rfl (fun vs w hK => ⟨wants_none rfl, (rho_in rfl (fv (hK 6 (memE rfl)))), (rho_in rfl (fv (hK 11 (memE rfl))))⟩) ?_
  refine w_move (.inl rfl) (fun vs w hK => ⟨wants_none rfl, rho_in rfl (fv (hK 12 (memE rfl)))⟩) ?_
  refine w_move (.inl rfl) (fun vs w hK => ⟨wants_g rfl (fv (hK 13 (memE rfl))), rho_out rfl rfl⟩) ?_
  refine w_move (.inl rfl) (fun vs w hK => ⟨wants_g rfl (fv (hK 13 (memE rfl))), rho_out rfl rfl⟩) ?_
  refine w_call [(39, _), (40, _)] _ _ (by decide) (fun vs w hK => ⟨wants_g rfl (fv (hK 13 (memE rfl))), rho_in rfl (fv (hK 14 (memE rfl))), rho_in rfl (fv (hK 15 (memE rfl))), trivial⟩) rfl rfl Try.func19 (by kernel_rfl) rfl (fun wq hI => pos_any a b wq) (margs rfl) ?_
  refine w_move (.inl rfl) (fun vs w hK => ⟨wants_g rfl (fv (hK 13 (memE rfl))), rho_out rfl rfl⟩) ?_
  refine w_call [(42, _)] _ _ (by decide) (fun vs w hK => ⟨wants_g rfl (fv (hK 13 (memE rfl))), rho_in rfl (fv (hK 17 (memE rfl))), trivial⟩) rfl rfl Try.func29 (by kernel_rfl) rfl (fun wq hI => lawfour_any a wq) (margs rfl) ?_
  refine w_val [(43, _)] _ (fun vs w hK => ⟨wants_g rfl (fv (hK 13 (memE rfl))), rho_in rfl (fv (hK 18 (memE rfl))), trivial⟩) rfl (fun wq hI => run_cat_op rfl rfl rfl (by simp only [ByteArray.size_append, szc, F4_size, HZH.out, HZI.out]; omega)) ?_
  refine w_move (.inl rfl) (fun vs w hK => ⟨wants_g rfl (fv (hK 13 (memE rfl))), rho_out rfl rfl⟩) ?_
  refine w_call [(45, _)] _ _ (by decide) (fun vs w hK => ⟨wants_g rfl (fv (hK 13 (memE rfl))), rho_in rfl (fv (hK 20 (memE rfl))), trivial⟩) rfl rfl Try.func29 (by kernel_rfl) rfl (fun wq hI => lawfour_any b wq) (margs rfl) ?_
  refine w_val [(44, _), (46, _)] _ (fun vs w hK => ⟨wants_g rfl (fv (hK 13 (memE rfl))), rho_in rfl (fv (hK 19 (memE rfl))), rho_in rfl (fv (hK 21 (memE rfl))), trivial⟩) rfl (fun wq hI => run_cat_op rfl rfl rfl (by simp only [ByteArray.size_append, szc, F4_size, HZH.out, HZI.out]; omega)) ?_
  refine w_val [(41, _), (47, _)] _ (fun vs w hK => ⟨wants_g rfl (fv (hK 13 (memE rfl))), rho_in rfl (fv (hK 16 (memE rfl))), rho_in rfl (fv (hK 22 (memE rfl))), trivial⟩) rfl (fun wq hI => run_neq_same rfl rfl rfl rfl) ?_
  refine w_pick (b := false) rfl (fun vs w hK => ⟨wants_none rfl, (rho_in rfl (fv (hK 13 (memE rfl)))), (rho_in rfl (fv (hK 23 (memE rfl))))⟩) ?_
  refine w_end rfl rfl rfl (fun vs wq hI hF => ?_)
  simp only [List.reverse_cons, List.reverse_nil, List.nil_append, List.cons_append, finL_val, finL_of, finL_any, finL_app, finL_new, finL_gr, finL_row, finL_box, finL_nil, Act.put, List.setIfInBounds_toArray, List.set_cons_zero, List.set_cons_succ, Nat.reduceAdd]
  clear hF HI1
  have HI1 := Lib.hid hI
  clear hI
  go_upto_region 7 with fail
  refine plain_ (fun w' => Below w1.heap.size w1 w') (fun _ => True) reg_6_7 rfl inv0 (fun _ _ _ _ => trivial) HI1.out trivial ?_
  refine w_val [(5, _)] (_) (fun vs w hK => ⟨wants_none rfl, rho_out rfl rfl, trivial⟩) rfl (fun wq hI => by exact run_load_op rfl rfl (run_loadAt_mid wq _ 0 32 (nums .u8 h) _ (range_block ((hI.block _ HQ1.out.1).trans HQ1.out.2)) Try.underlying32 rfl (by rw [HN.out]; kernel_rfl))) ?_
  refine w_move (.inl rfl) (fun vs w hK => ⟨wants_none rfl, rho_out rfl rfl⟩) ?_
  refine w_move (.inl rfl) (fun vs w hK => ⟨wants_none rfl, rho_out rfl rfl⟩) ?_
  refine w_call [(50, _), (51, _), (52, _)] _ _ (by decide) (fun vs w hK => ⟨wants_none rfl, rho_in rfl (fv (hK 0 (memE rfl))), rho_in rfl (fv (hK 1 (memE rfl))), rho_in rfl (fv (hK 2 (memE rfl))), trivial⟩) rfl rfl Try.func20 (by kernel_rfl) rfl (fun wq hI => hist_any h HH.out a b wq) (margs rfl) ?_
  refine w_move (.inl rfl) (fun vs w hK => ⟨wants_none rfl, rho_out rfl rfl⟩) ?_
  refine w_val [(54, _)] _ (fun vs w hK => ⟨wants_none rfl, rho_in rfl (fv (hK 4 (memE rfl))), trivial⟩) rfl (fun wq hI => run_cat_op rfl rfl rfl (by simp only [ByteArray.size_append, szc, F4_size, HZH.out, HZI.out]; omega)) ?_
  refine w_move (.inl rfl) (fun vs w hK => ⟨wants_none rfl, rho_out rfl rfl⟩) ?_
  refine w_call [(56, _)] _ _ (by decide) (fun vs w hK => ⟨wants_none rfl, rho_in rfl (fv (hK 6 (memE rfl))), trivial⟩) rfl rfl Try.func29 (by kernel_rfl) rfl (fun wq hI => lawfour_any a wq) (margs rfl) ?_
  refine w_val [(55, _), (57, _)] _ (fun vs w hK => ⟨wants_none rfl, rho_in rfl (fv (hK 5 (memE rfl))), rho_in rfl (fv (hK 7 (memE rfl))), trivial⟩) rfl (fun wq hI => run_cat_op rfl rfl rfl (by simp only [ByteArray.size_append, szc, F4_size, HZH.out, HZI.out]; omega)) ?_
  refine w_move (.inl rfl) (fun vs w hK => ⟨wants_none rfl, rho_out rfl rfl⟩) ?_
  refine w_call [(59, _)] _ _ (by decide) (fun vs w hK => ⟨wants_none rfl, rho_in rfl (fv (hK 9 (memE rfl))), trivial⟩) rfl rfl Try.func29 (by kernel_rfl) rfl (fun wq hI => lawfour_any b wq) (margs rfl) ?_
  refine w_val [(58, _), (60, _)] _ (fun vs w hK => ⟨wants_none rfl, rho_in rfl (fv (hK 8 (memE rfl))), rho_in rfl (fv (hK 10 (memE rfl))), trivial⟩) rfl (fun wq hI => run_cat_op rfl rfl rfl (by simp only [ByteArray.size_append, szc, F4_size, HZH.out, HZI.out]; omega)) ?_
  refine w_val [(53, _), (61, _)] _ (fun vs w hK => ⟨wants_none rfl, rho_in rfl (fv (hK 3 (memE rfl))), rho_in rfl (fv (hK 11 (memE rfl))), trivial⟩) rfl (fun wq hI => run_neq_same rfl rfl rfl rfl) ?_
  refine w_move (.inl rfl) (fun vs w hK => ⟨wants_none rfl, rho_in rfl (fv (hK 12 (memE rfl)))⟩) ?_
  refine w_val [(5, _)] (_) (fun vs w hK => ⟨wants_g rfl (fv (hK 13 (memE rfl))), rho_out rfl rfl, trivial⟩) rfl (fun wq hI => by exact run_load_op rfl rfl (run_loadAt_mid wq _ 0 32 (nums .u8 h) _ (range_block ((hI.block _ HQ1.out.1).trans HQ1.out.2)) Try.underlying32 rfl (by rw [HN.out]; kernel_rfl))) ?_
  refine w_call [(64, _)] _ _ (by decide) (fun vs w hK => ⟨wants_g rfl (fv (hK 13 (memE rfl))), rho_in rfl (fv (hK 14 (memE rfl))), trivial⟩) rfl rfl Try.func30 (by kernel_rfl) rfl (fun wq hI => hists_any h HH.out wq) (margs rfl) ?_
  refine w_move (.inl rfl) (fun vs w hK => ⟨wants_g rfl (fv (hK 13 (memE rfl))), rho_out rfl rfl⟩) ?_
  refine w_val [(66, _)] _ (fun vs w hK => ⟨wants_g rfl (fv (hK 13 (memE rfl))), rho_in rfl (fv (hK 16 (memE rfl))), trivial⟩) rfl (fun wq hI => run_cat_op rfl rfl rfl (by simp only [ByteArray.size_append, szc, F4_size, HZH.out, HZI.out]; omega)) ?_
  refine w_val [(65, _), (67, _)] _ (fun vs w hK => ⟨wants_g rfl (fv (hK 13 (memE rfl))), rho_in rfl (fv (hK 15 (memE rfl))), rho_in rfl (fv (hK 17 (memE rfl))), trivial⟩) rfl (fun wq hI => run_neq_same rfl rfl rfl rfl) ?_
  refine w_pick (b := false) rfl (fun vs w hK => ⟨wants_none rfl, (rho_in rfl (fv (hK 13 (memE rfl)))), (rho_in rfl (fv (hK 18 (memE rfl))))⟩) ?_
  refine w_move (.inl rfl) (fun vs w hK => ⟨wants_none rfl, rho_in rfl (fv (hK 19 (memE rfl)))⟩) ?_
  refine w_val [(5, _)] (_) (fun vs w hK => ⟨wants_g rfl (fv (hK 20 (memE rfl))), rho_out rfl rfl, trivial⟩) rfl (fun wq hI => by exact run_load_op rfl rfl (run_loadAt_mid wq _ 0 32 (nums .u8 h) _ (range_block ((hI.block _ HQ1.out.1).trans HQ1.out.2)) Try.underlying32 rfl (by rw [HN.out]; kernel_rfl))) ?_
  refine w_val [(6, _)] (_) (fun vs w hK => ⟨wants_g rfl (fv (hK 20 (memE rfl))), rho_out rfl rfl, trivial⟩) rfl (fun wq hI => by exact run_load_op rfl rfl (run_loadAt_mid wq _ 0 39 (pt id out) _ (range_block ((hI.block _ HQ2.out.1).trans HQ2.out.2)) Try.underlying39 rfl (by rw [HL.out]; kernel_rfl))) ?_
  refine w_call [(71, _), (72, _)] _ _ (by decide) (fun vs w hK => ⟨wants_g rfl (fv (hK 20 (memE rfl))), rho_in rfl (fv (hK 21 (memE rfl))), rho_in rfl (fv (hK 22 (memE rfl))), trivial⟩) rfl rfl Try.func23 (by kernel_rfl) rfl (fun wq hI => unspent_any h HH.out id HI.out out HO.out wq) (margs rfl) ?_
  refine w_move (.inl rfl) (fun vs w hK => ⟨wants_g rfl (fv (hK 20 (memE rfl))), rho_out rfl rfl⟩) ?_
  refine w_val [(74, _)] _ (fun vs w hK => ⟨wants_g rfl (fv (hK 20 (memE rfl))), rho_in rfl (fv (hK 24 (memE rfl))), trivial⟩) rfl (fun wq hI => run_cat_op rfl rfl rfl (by simp only [ByteArray.size_append, szc, F4_size, HZH.out, HZI.out]; omega)) ?_
  refine w_move (.inl rfl) (fun vs w hK => ⟨wants_g rfl (fv (hK 20 (memE rfl))), rho_out rfl rfl⟩) ?_
  refine w_val [(75, _), (76, _)] _ (fun vs w hK => ⟨wants_g rfl (fv (hK 20 (memE rfl))), rho_in rfl (fv (hK 25 (memE rfl))), rho_in rfl (fv (hK 26 (memE rfl))), trivial⟩) rfl (fun wq hI => run_cat_op rfl rfl rfl (by simp only [ByteArray.size_append, szc, F4_size, HZH.out, HZI.out]; omega)) ?_
  refine w_val [(73, _), (77, _)] _ (fun vs w hK => ⟨wants_g rfl (fv (hK 20 (memE rfl))), rho_in rfl (fv (hK 23 (memE rfl))), rho_in rfl (fv (hK 27 (memE rfl))), trivial⟩) rfl (fun wq hI => run_neq_same rfl rfl rfl rfl) ?_
  refine w_pick (b := false) rfl (fun vs w hK => ⟨wants_none rfl, (rho_in rfl (fv (hK 20 (memE rfl)))), (rho_in rfl (fv (hK 28 (memE rfl))))⟩) ?_
  refine w_move (.inl rfl) (fun vs w hK => ⟨wants_none rfl, rho_in rfl (fv (hK 29 (memE rfl)))⟩) ?_
  refine w_val [(5, _)] (_) (fun vs w hK => ⟨wants_g rfl (fv (hK 30 (memE rfl))), rho_out rfl rfl, trivial⟩) rfl (fun wq hI => by exact run_load_op rfl rfl (run_loadAt_mid wq _ 0 32 (nums .u8 h) _ (range_block ((hI.block _ HQ1.out.1).trans HQ1.out.2)) Try.underlying32 rfl (by rw [HN.out]; kernel_rfl))) ?_
  refine w_call [(81, _)] _ _ (by decide) (fun vs w hK => ⟨wants_g rfl (fv (hK 30 (memE rfl))), rho_in rfl (fv (hK 31 (memE rfl))), trivial⟩) rfl rfl Try.func31 (by kernel_rfl) rfl (fun wq hI => unspents_any h HH.out wq) (margs rfl) ?_
  refine w_move (.inl rfl) (fun vs w hK => ⟨wants_g rfl (fv (hK 30 (memE rfl))), rho_out rfl rfl⟩) ?_
  refine w_val [(83, _)] _ (fun vs w hK => ⟨wants_g rfl (fv (hK 30 (memE rfl))), rho_in rfl (fv (hK 33 (memE rfl))), trivial⟩) rfl (fun wq hI => run_cat_op rfl rfl rfl (by simp only [ByteArray.size_append, szc, F4_size, HZH.out, HZI.out]; omega)) ?_
  refine w_val [(82, _), (84, _)] _ (fun vs w hK => ⟨wants_g rfl (fv (hK 30 (memE rfl))), rho_in rfl (fv (hK 32 (memE rfl))), rho_in rfl (fv (hK 34 (memE rfl))), trivial⟩) rfl (fun wq hI => run_neq_same rfl rfl rfl rfl) ?_
  refine w_pick (b := false) rfl (fun vs w hK => ⟨wants_none rfl, (rho_in rfl (fv (hK 30 (memE rfl)))), (rho_in rfl (fv (hK 35 (memE rfl))))⟩) ?_
  refine w_end rfl rfl rfl (fun vs wq hI hF => ?_)
  simp only [List.reverse_cons, List.reverse_nil, List.nil_append, List.cons_append, finL_val, finL_of, finL_any, finL_app, finL_new, finL_gr, finL_row, finL_box, finL_nil, Act.put, List.setIfInBounds_toArray, List.set_cons_zero, List.set_cons_succ, Nat.reduceAdd]
  clear hF HI1
  have HI1 := Lib.hid hI
  clear hI
  go_upto_region 9 with fail
  refine draws_ (fun w' => Below w1.heap.size w1 w') (fun _ => True) (by kernel_rfl) reg_6_9 rfl inv0 (fun _ _ _ _ => trivial) (below_drew HI1.out) trivial ?_
  refine w_val [(6, _)] (_) (fun vs w hK => ⟨wants_none rfl, rho_out rfl rfl, trivial⟩) rfl (fun wq hI => by exact run_load_op rfl rfl (run_loadAt_mid wq _ 0 39 (pt id out) _ (range_block ((hI.block _ HQ2.out.1).trans HQ2.out.2)) Try.underlying39 rfl (by rw [HL.out]; kernel_rfl))) ?_
  refine w_call [(87, _)] _ _ (by decide) (fun vs w hK => ⟨wants_none rfl, rho_in rfl (fv (hK 0 (memE rfl))), trivial⟩) rfl rfl Try.func22 (by kernel_rfl) rfl (fun wq hI => out_any id HI.out out HO.out wq) (margs rfl) ?_
  refine w_move (.inl rfl) (fun vs w hK => ⟨wants_none rfl, rho_out rfl rfl⟩) ?_
  refine w_val [(89, _)] _ (fun vs w hK => ⟨wants_none rfl, rho_in rfl (fv (hK 2 (memE rfl))), trivial⟩) rfl (fun wq hI => run_cat_op rfl rfl rfl (by simp only [ByteArray.size_append, szc, F4_size, HZH.out, HZI.out]; omega)) ?_
  refine w_val [(88, _), (90, _)] _ (fun vs w hK => ⟨wants_none rfl, rho_in rfl (fv (hK 1 (memE rfl))), rho_in rfl (fv (hK 3 (memE rfl))), trivial⟩) rfl (fun wq hI => run_eql_same rfl rfl rfl rfl) ?_
  refine w_move (.inl rfl) (fun vs w hK => ⟨wants_none rfl, rho_in rfl (fv (hK 4 (memE rfl)))⟩) ?_
  refine w_val [(6, _)] _ (fun vs w hK => ⟨wants_g rfl (fv (hK 5 (memE rfl))), rho_out rfl rfl, trivial⟩) rfl (fun wq hI => by simp only [execOp, Option.map_some, Option.map_none, lk_tmp, lk_const, lkT_cons, ↓reduceIte, Nat.reduceEqDiff]; go_simp; (first | done | rfl)) ?_
  refine w_val [(93, _)] (_) (fun vs w hK => ⟨wants_g rfl (fv (hK 5 (memE rfl))), rho_in rfl (fv (hK 6 (memE rfl))), trivial⟩) rfl (fun wq hI => by exact run_load_op rfl rfl (run_loadAt_mid wq _ 0 32 (nums .u8 id) _ (range_mid (n := 32) ((hI.block _ HQ2.out.1).trans HQ2.out.2) (by simp [pt, nums, ← HI.out])) Try.underlying32 rfl (by rw [show (nums .u8 id).length = 32 by simp [nums, HI.out]]; kernel_rfl))) ?_
  refine w_call [(94, _)] _ _ (by decide) (fun vs w hK => ⟨wants_g rfl (fv (hK 5 (memE rfl))), rho_in rfl (fv (hK 7 (memE rfl))), trivial⟩) rfl rfl Try.func32 (by kernel_rfl) rfl (fun wq hI => outs_any id HI.out wq) (margs rfl) ?_
  refine w_val [(6, _)] _ (fun vs w hK => ⟨wants_g rfl (fv (hK 5 (memE rfl))), rho_out rfl rfl, trivial⟩) rfl (fun wq hI => by simp only [execOp, Option.map_some, Option.map_none, lk_tmp, lk_const, lkT_cons, ↓reduceIte, Nat.reduceEqDiff]; go_simp; (first | done | rfl)) ?_
  refine w_val [(96, _)] _ (fun vs w hK => ⟨wants_g rfl (fv (hK 5 (memE rfl))), rho_in rfl (fv (hK 9 (memE rfl))), trivial⟩) rfl (fun wq hI => by simp only [execOp, Option.map_some, Option.map_none, lk_tmp, lk_const, lkT_cons, ↓reduceIte, Nat.reduceEqDiff]; go_simp; (first | done | rfl)) ?_
  refine w_val [(97, _)] (_) (fun vs w hK => ⟨wants_g rfl (fv (hK 5 (memE rfl))), rho_in rfl (fv (hK 10 (memE rfl))), trivial⟩) rfl (fun wq hI => by exact run_conv_op rfl rfl (conv_rds (c := 32) (dst := 9) tb Try.underlying5 Try.underlying9 (rds_block (o := 0) ((hI.block _ HQ2.out.1).trans HQ2.out.2) (by simp [pt, nums, ← HI.out]) HI.out (by omega) : Rds .u8 wq _ 32 id))) ?_
  refine w_val [(98, _)] _ (fun vs w hK => ⟨wants_g rfl (fv (hK 5 (memE rfl))), rho_in rfl (fv (hK 11 (memE rfl))), trivial⟩) rfl (fun wq hI => run_cat_op rfl rfl rfl (by simp only [ByteArray.size_append, szc, F4_size, HZH.out, HZI.out]; omega)) ?_
  refine w_val [(95, _), (99, _)] _ (fun vs w hK => ⟨wants_g rfl (fv (hK 5 (memE rfl))), rho_in rfl (fv (hK 8 (memE rfl))), rho_in rfl (fv (hK 12 (memE rfl))), trivial⟩) rfl (fun wq hI => run_eql_same rfl rfl rfl rfl) ?_
  refine w_pick (b := true) rfl (fun vs w hK => ⟨wants_none rfl, (rho_in rfl (fv (hK 5 (memE rfl)))), (rho_in rfl (fv (hK 13 (memE rfl))))⟩) ?_
  refine w_move (.inl rfl) (fun vs w hK => ⟨wants_none rfl, rho_in rfl (fv (hK 14 (memE rfl)))⟩) ?_
  refine w_val [(6, _)] (_) (fun vs w hK => ⟨wants_g rfl (fv (hK 15 (memE rfl))), rho_out rfl rfl, trivial⟩) rfl (fun wq hI => by exact run_load_op rfl rfl (run_loadAt_mid wq _ 0 39 (pt id out) _ (range_block ((hI.block _ HQ2.out.1).trans HQ2.out.2)) Try.underlying39 rfl (by rw [HL.out]; kernel_rfl))) ?_
  refine w_call [(103, _)] _ _ (by decide) (fun vs w hK => ⟨wants_g rfl (fv (hK 15 (memE rfl))), rho_in rfl (fv (hK 16 (memE rfl))), trivial⟩) rfl rfl Try.func28 (by kernel_rfl) rfl (fun wq hI => spent_any id HI.out out HO.out wq) (margs rfl) ?_
  refine w_move (.inl rfl) (fun vs w hK => ⟨wants_g rfl (fv (hK 15 (memE rfl))), rho_out rfl rfl⟩) ?_
  refine w_val [(105, _)] _ (fun vs w hK => ⟨wants_g rfl (fv (hK 15 (memE rfl))), rho_in rfl (fv (hK 18 (memE rfl))), trivial⟩) rfl (fun wq hI => run_cat_op rfl rfl rfl (by simp only [ByteArray.size_append, szc, F4_size, HZH.out, HZI.out]; omega)) ?_
  refine w_val [(104, _), (106, _)] _ (fun vs w hK => ⟨wants_g rfl (fv (hK 15 (memE rfl))), rho_in rfl (fv (hK 17 (memE rfl))), rho_in rfl (fv (hK 19 (memE rfl))), trivial⟩) rfl (fun wq hI => run_eql_same rfl rfl rfl rfl) ?_
  refine w_pick (b := true) rfl (fun vs w hK => ⟨wants_none rfl, (rho_in rfl (fv (hK 15 (memE rfl)))), (rho_in rfl (fv (hK 20 (memE rfl))))⟩) ?_
  refine w_move (.inl rfl) (fun vs w hK => ⟨wants_none rfl, rho_in rfl (fv (hK 21 (memE rfl)))⟩) ?_
  refine w_move (.inl rfl) (fun vs w hK => ⟨wants_g rfl (fv (hK 22 (memE rfl))), rho_out rfl rfl⟩) ?_
  refine w_move (.inl rfl) (fun vs w hK => ⟨wants_g rfl (fv (hK 22 (memE rfl))), rho_out rfl rfl⟩) ?_
  refine w_move (.inl rfl) (fun vs w hK => ⟨wants_g rfl (fv (hK 22 (memE rfl))), rho_out rfl rfl⟩) ?_
  refine w_call [(110, _), (111, _), (112, _)] _ _ (by decide) (fun vs w hK => ⟨wants_g rfl (fv (hK 22 (memE rfl))), rho_in rfl (fv (hK 23 (memE rfl))), rho_in rfl (fv (hK 24 (memE rfl))), rho_in rfl (fv (hK 25 (memE rfl))), trivial⟩) rfl rfl Try.func24 (by kernel_rfl) rfl (fun wq hI => undo_any a b c wq) (margs rfl) ?_
  refine w_move (.inl rfl) (fun vs w hK => ⟨wants_g rfl (fv (hK 22 (memE rfl))), rho_out rfl rfl⟩) ?_
  refine w_call [(114, _)] _ _ (by decide) (fun vs w hK => ⟨wants_g rfl (fv (hK 22 (memE rfl))), rho_in rfl (fv (hK 27 (memE rfl))), trivial⟩) rfl rfl Try.func29 (by kernel_rfl) rfl (fun wq hI => lawfour_any a wq) (margs rfl) ?_
  refine w_val [(115, _)] _ (fun vs w hK => ⟨wants_g rfl (fv (hK 22 (memE rfl))), rho_in rfl (fv (hK 28 (memE rfl))), trivial⟩) rfl (fun wq hI => run_cat_op rfl rfl rfl (by simp only [ByteArray.size_append, szc, F4_size, HZH.out, HZI.out]; omega)) ?_
  refine w_move (.inl rfl) (fun vs w hK => ⟨wants_g rfl (fv (hK 22 (memE rfl))), rho_out rfl rfl⟩) ?_
  refine w_call [(117, _)] _ _ (by decide) (fun vs w hK => ⟨wants_g rfl (fv (hK 22 (memE rfl))), rho_in rfl (fv (hK 30 (memE rfl))), trivial⟩) rfl rfl Try.func29 (by kernel_rfl) rfl (fun wq hI => lawfour_any b wq) (margs rfl) ?_
  refine w_val [(116, _), (118, _)] _ (fun vs w hK => ⟨wants_g rfl (fv (hK 22 (memE rfl))), rho_in rfl (fv (hK 29 (memE rfl))), rho_in rfl (fv (hK 31 (memE rfl))), trivial⟩) rfl (fun wq hI => run_cat_op rfl rfl rfl (by simp only [ByteArray.size_append, szc, F4_size, HZH.out, HZI.out]; omega)) ?_
  refine w_move (.inl rfl) (fun vs w hK => ⟨wants_g rfl (fv (hK 22 (memE rfl))), rho_out rfl rfl⟩) ?_
  refine w_call [(120, _)] _ _ (by decide) (fun vs w hK => ⟨wants_g rfl (fv (hK 22 (memE rfl))), rho_in rfl (fv (hK 33 (memE rfl))), trivial⟩) rfl rfl Try.func29 (by kernel_rfl) rfl (fun wq hI => lawfour_any c wq) (margs rfl) ?_
  refine w_val [(119, _), (121, _)] _ (fun vs w hK => ⟨wants_g rfl (fv (hK 22 (memE rfl))), rho_in rfl (fv (hK 32 (memE rfl))), rho_in rfl (fv (hK 34 (memE rfl))), trivial⟩) rfl (fun wq hI => run_cat_op rfl rfl rfl (by simp only [ByteArray.size_append, szc, F4_size, HZH.out, HZI.out]; omega)) ?_
  refine w_val [(113, _), (122, _)] _ (fun vs w hK => ⟨wants_g rfl (fv (hK 22 (memE rfl))), rho_in rfl (fv (hK 26 (memE rfl))), rho_in rfl (fv (hK 35 (memE rfl))), trivial⟩) rfl (fun wq hI => run_eql_same rfl rfl rfl rfl) ?_
  refine w_pick (b := true) rfl (fun vs w hK => ⟨wants_none rfl, (rho_in rfl (fv (hK 22 (memE rfl)))), (rho_in rfl (fv (hK 36 (memE rfl))))⟩) ?_
  refine w_move (.inl rfl) (fun vs w hK => ⟨wants_none rfl, rho_in rfl (fv (hK 37 (memE rfl)))⟩) ?_
  refine w_move (.inl rfl) (fun vs w hK => ⟨wants_g rfl (fv (hK 38 (memE rfl))), rho_out rfl rfl⟩) ?_
  refine w_call [(126, _)] _ _ (by decide) (fun vs w hK => ⟨wants_g rfl (fv (hK 38 (memE rfl))), rho_in rfl (fv (hK 39 (memE rfl))), trivial⟩) rfl rfl Try.func33 (by kernel_rfl) rfl (fun wq hI => undos_any a wq) (margs rfl) ?_
  refine w_move (.inl rfl) (fun vs w hK => ⟨wants_g rfl (fv (hK 38 (memE rfl))), rho_out rfl rfl⟩) ?_
  refine w_call [(128, _)] _ _ (by decide) (fun vs w hK => ⟨wants_g rfl (fv (hK 38 (memE rfl))), rho_in rfl (fv (hK 41 (memE rfl))), trivial⟩) rfl rfl Try.func29 (by kernel_rfl) rfl (fun wq hI => lawfour_any a wq) (margs rfl) ?_
  refine w_val [(129, _)] _ (fun vs w hK => ⟨wants_g rfl (fv (hK 38 (memE rfl))), rho_in rfl (fv (hK 42 (memE rfl))), trivial⟩) rfl (fun wq hI => run_cat_op rfl rfl rfl (by simp only [ByteArray.size_append, szc, F4_size, HZH.out, HZI.out]; omega)) ?_
  refine w_val [(127, _), (130, _)] _ (fun vs w hK => ⟨wants_g rfl (fv (hK 38 (memE rfl))), rho_in rfl (fv (hK 40 (memE rfl))), rho_in rfl (fv (hK 43 (memE rfl))), trivial⟩) rfl (fun wq hI => run_eql_same rfl rfl rfl rfl) ?_
  refine w_pick (b := true) rfl (fun vs w hK => ⟨wants_none rfl, (rho_in rfl (fv (hK 38 (memE rfl)))), (rho_in rfl (fv (hK 44 (memE rfl))))⟩) ?_
  refine w_move (.inl rfl) (fun vs w hK => ⟨wants_none rfl, rho_in rfl (fv (hK 45 (memE rfl)))⟩) ?_
  refine w_move (.inl rfl) (fun vs w hK => ⟨wants_g rfl (fv (hK 46 (memE rfl))), rho_out rfl rfl⟩) ?_
  refine w_call [(134, _)] _ _ (by decide) (fun vs w hK => ⟨wants_g rfl (fv (hK 46 (memE rfl))), rho_in rfl (fv (hK 47 (memE rfl))), trivial⟩) rfl rfl Try.func34 (by kernel_rfl) rfl (fun wq hI => number_any a wq) (margs rfl) ?_
  refine w_move (.inl rfl) (fun vs w hK => ⟨wants_g rfl (fv (hK 46 (memE rfl))), rho_out rfl rfl⟩) ?_
  refine w_call [(136, _)] _ _ (by decide) (fun vs w hK => ⟨wants_g rfl (fv (hK 46 (memE rfl))), rho_in rfl (fv (hK 49 (memE rfl))), trivial⟩) rfl rfl Try.func29 (by kernel_rfl) rfl (fun wq hI => lawfour_any a wq) (margs rfl) ?_
  refine w_val [(135, _), (137, _)] _ (fun vs w hK => ⟨wants_g rfl (fv (hK 46 (memE rfl))), rho_in rfl (fv (hK 48 (memE rfl))), rho_in rfl (fv (hK 50 (memE rfl))), trivial⟩) rfl (fun wq hI => run_eql_same rfl rfl rfl rfl) ?_
  refine w_pick (b := true) rfl (fun vs w hK => ⟨wants_none rfl, (rho_in rfl (fv (hK 46 (memE rfl)))), (rho_in rfl (fv (hK 51 (memE rfl))))⟩) ?_
  refine w_move (.inr rfl) (fun vs w hK => ⟨wants_none rfl, rho_in rfl (fv (hK 52 (memE rfl)))⟩) ?_
  refine w_end rfl rfl rfl (fun vs wq hI hF => ?_)
  simp only [List.reverse_cons, List.reverse_nil, List.nil_append, List.cons_append, finL_val, finL_of, finL_any, finL_app, finL_new, finL_gr, finL_row, finL_box, finL_nil, Act.put, List.setIfInBounds_toArray, List.set_cons_zero, List.set_cons_succ, Nat.reduceAdd]
  have HB := Lib.hid (below_then HB2.out HB2.out.size hI)
  clear hI hF
  go_wp2_with fail
  go_ret
  exact ⟨rfl, HB.out⟩
theorem keys_row (h : List Int) (id : List Int) (out : Int) (a b c : Int) (w : World) (hh : h.length = 32) (_ : ∀ x ∈ h, (Lit.int .u8 x).wf = true) (hid : id.length = 32) (_ : ∀ x ∈ id, (Lit.int .u8 x).wf = true) (ho : (Lit.int .u32 out).wf = true)
    (_ : (Lit.int .i64 a).wf = true) (_ : (Lit.int .i64 b).wf = true) (_ : (Lit.int .i64 c).wf = true) :
    Calls Try.prog 6 #[.agg (nums .u8 h).toArray, .agg (nums .u8 id ++ ([Value.int .u32 out] ++ [])).toArray, .int .i64 a, .int .i64 b, .int .i64 c] w fun e w' => e = .returned (.bool true) ∧ Below w.heap.size w w' :=
  keys_any h hh id hid out (wf_u32 ho) a b c w
end Go.Proofs.Ytglkagicmolbeaa.Rw

