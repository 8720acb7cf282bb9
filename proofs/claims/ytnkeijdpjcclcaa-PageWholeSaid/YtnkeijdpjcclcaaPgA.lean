/- The contract of page.common. -/
import Derived.Test.YtnkeijdpjcclcaaPgP
import Derived.Test.YtnkeijdpjcclcaaNumAid
import Derived.Test.YtnkeijdpjcclcaaWalk4
import Derived.Test.YtnkeijdpjcclcaaFld2
import Derived.Test.YtnkeijdpjcclcaaStO
namespace Go.Proofs.Ytnkeijdpjcclcaa.Pg
set_option linter.unusedVariables false
set_option linter.unusedSimpArgs false
open Go.Proofs.Ytnkeijdpjcclcaa.Kit Go.Proofs.Ytnkeijdpjcclcaa.Num Go.RowKit Go.Proofs.YtnkeijdpjcclcaaW.PrintWords Go.Proofs.YtnkeijdpjcclcaaW.PrintLast Go.Proofs.YtnkeijdpjcclcaaW.PrintMore NumPure
theorem cmn_bool (a b : ByteArray) (n : Nat) (h : n ≤ cmn (numsOf a) (numsOf b)) :
    ((decide ((n : Int) < (a.size : Int)) && decide ((n : Int) < (b.size : Int))) && ((numsOf a).getD n 0 == (numsOf b).getD n 0)) = decide (n < cmn (numsOf a) (numsOf b)) := by
  have hs := cmn_step (numsOf a) (numsOf b) n h
  rw [numsOf_length, numsOf_length] at hs
  by_cases h5 : n < cmn (numsOf a) (numsOf b)
  · obtain ⟨h1, h2, h3⟩ := hs.2 h5
    have e1 : decide ((n : Int) < (a.size : Int)) = true := decide_eq_true (by omega)
    have e2 : decide ((n : Int) < (b.size : Int)) = true := decide_eq_true (by omega)
    rw [e1, e2, h3, decide_eq_true h5]
    simp
  · rw [decide_eq_false h5]
    by_cases h1 : n < a.size
    · by_cases h2 : n < b.size
      · have h3 : ¬ (numsOf a).getD n 0 = (numsOf b).getD n 0 := fun h3 => h5 (hs.1 ⟨h1, h2, h3⟩)
        have e3 : ((numsOf a).getD n 0 == (numsOf b).getD n 0) = false := by simp only [beq_eq_false_iff_ne]; exact h3
        rw [e3, Bool.and_false]
      · have e2 : decide ((n : Int) < (b.size : Int)) = false := decide_eq_false (by omega)
        rw [e2, Bool.and_false, Bool.false_and]
    · have e1 : decide ((n : Int) < (a.size : Int)) = false := decide_eq_false (by omega)
      rw [e1, Bool.false_and, Bool.false_and]
theorem reg_45_2 : RegOk (opsOf Try.f45 2) [[], [], [1], [0, 1, 2], [0, 1, 2, 3], [0, 1, 2, 3, 4], [0, 1, 2, 3, 4], [0, 1, 2, 3, 4, 6], [0, 1, 2, 3, 4, 5, 6, 7], [0, 1, 2, 3, 4, 5, 6, 7, 8], [0, 1, 2, 3, 4, 5, 6, 7, 8, 9], [0, 1, 2, 3, 4, 5, 6, 7, 8, 9, 10], [0, 1, 2, 3, 4, 5, 6, 7, 8, 9, 10], [0, 1, 2, 3, 4, 5, 6, 7, 8, 9, 10, 11, 12], [0, 1, 2, 3, 4, 5, 6, 7, 8, 9, 10], [0, 1, 2, 3, 4, 5, 6, 7, 8, 9, 10], [0, 1, 2, 3, 4, 5, 6, 7, 8, 9, 10, 14, 15], [0, 1, 2, 3, 4, 5, 6, 7, 8, 9, 10, 11, 12, 13, 14, 15, 16], [0, 1, 2, 3, 4, 5, 6, 7, 8, 9, 10, 11, 12, 13, 14, 15, 16, 17]] [] [some 6, some 7, some 8, some 9, some 10, some 11, some 12, some 13, some 14, some 15, some 16, some 17, some 18, some 19, some 20, some 21, some 22, some 23, some 24] := regOk (by kernel_rfl)
set_option maxRecDepth 20000 in
set_option maxHeartbeats 1600000 in
theorem common_any (a b : ByteArray) (w : World) (ha : a.size ≤ 4611686018427387904) :
    Calls Try.prog 45 #[.string a, .string b] w fun e w' => e = .returned (.int .i64 (cmn (numsOf a) (numsOf b) : Nat)) ∧ Below w.heap.size w w' := by
  have hle : cmn (numsOf a) (numsOf b) ≤ a.size := by rw [← numsOf_length]; exact cmn_left _ _
  have HC := Lib.hid (fun n h => cmn_bool a b n h)
  generalize cmn (numsOf a) (numsOf b) = m at hle HC ⊢
  go_enter Try.func45, Try.ntmps45
  go_wp2_with fail
  go_loopw [5] (fun i wr => ∃ n : Nat, n ≤ m ∧ i = .int .i64 n ∧ Hid (Below w.heap.size w wr)) (fun i _ => m + 1 - (intOf i).toNat)
  case atStart => exact ⟨0, by omega, rfl, Lib.hid (Below.refl _ _)⟩
  case round =>
    obtain ⟨n, hn, rfl, HW⟩ := hrel
    obtain ⟨D, hD⟩ : ∃ D, decide (n < m) = D := ⟨_, rfl⟩
    have hcb := HC.out n hn
    rw [hD] at hcb
    have HD := Lib.hid hcb
    have HDD := Lib.hid hD
    clear hcb hD
    go_upto_region 2 with fail
    refine draws_ (fun wq => Below wr.heap.size wr wq) (fun _ => True) (by kernel_rfl) reg_45_2 rfl inv0 (fun _ _ _ _ => trivial) (below_drew (Below.refl _ _)) trivial ?_
    refine w_move (.inl rfl) (fun vs w hK => ⟨wants_none rfl, rho_out rfl rfl⟩) ?_
    refine w_move (.inl rfl) (fun vs w hK => ⟨wants_none rfl, rho_out rfl rfl⟩) ?_
    refine w_val [(7, _)] _ (fun vs w hK => ⟨wants_none rfl, rho_in rfl (fv (hK 1 (memE rfl))), trivial⟩) rfl (fun wq hI => by simp only [execOp, Option.map_some, Option.map_none, lk_tmp, lk_const, lkT_cons, ↓reduceIte, Nat.reduceEqDiff]; go_simp; (first | done | rfl)) ?_
    refine w_val [(6, _), (8, _)] (_) (fun vs w hK => ⟨wants_none rfl, rho_in rfl (fv (hK 0 (memE rfl))), rho_in rfl (fv (hK 2 (memE rfl))), trivial⟩) rfl (fun wq hI => by exact run_int_lss rfl rfl rfl rfl) ?_
    refine w_move (.inl rfl) (fun vs w hK => ⟨wants_none rfl, rho_in rfl (fv (hK 3 (memE rfl)))⟩) ?_
    refine w_moveG (.inl rfl) (fun vs w hK => wantsT rfl (fv (hK 4 (memE rfl)))) (fun hG vs w hK => (rho_out rfl rfl)) ?_
    refine w_moveG (.inl rfl) (fun vs w hK => wantsT rfl (fv (hK 4 (memE rfl)))) (fun hG vs w hK => (rho_out rfl rfl)) ?_
    refine w_valG [(12, _)] (_) (fun vs w hK => wantsT rfl (fv (hK 4 (memE rfl)))) (fun hG vs w hK => ⟨(rho_in rfl (fvg (hK 6 (memE rfl)) hG)), trivial⟩) rfl (fun hG wq hI => by simp only [execOp, Option.map_some, Option.map_none, lk_tmp, lk_const, lkT_cons, ↓reduceIte, Nat.reduceEqDiff]; go_simp; (first | done | rfl)) ?_
    refine w_valG [(11, _), (13, _)] (_) (fun vs w hK => wantsT rfl (fv (hK 4 (memE rfl)))) (fun hG vs w hK => ⟨(rho_in rfl (fvg (hK 5 (memE rfl)) hG)), (rho_in rfl (fvg (hK 7 (memE rfl)) hG)), trivial⟩) rfl (fun hG wq hI => by exact run_int_lss rfl rfl rfl rfl) ?_
    refine w_and rfl (fun vs w hK => wants_none rfl) (fun vs w hK => (rho_in rfl (fv (hK 4 (memE rfl))))) (fun hB vs w hK => (rho_in rfl (fvg (hK 8 (memE rfl)) hB))) ?_
    refine w_move (.inl rfl) (fun vs w hK => ⟨wants_none rfl, rho_in rfl (fv (hK 9 (memE rfl)))⟩) ?_
    refine w_moveG (.inl rfl) (fun vs w hK => wantsT rfl (fv (hK 10 (memE rfl)))) (fun hG vs w hK => (rho_out rfl rfl)) ?_
    refine w_moveG (.inl rfl) (fun vs w hK => wantsT rfl (fv (hK 10 (memE rfl)))) (fun hG vs w hK => (rho_out rfl rfl)) ?_
    refine w_valG [(17, _), (18, _)] (_) (fun vs w hK => wantsT rfl (fv (hK 10 (memE rfl)))) (fun hG vs w hK => ⟨(rho_in rfl (fvg (hK 11 (memE rfl)) hG)), (rho_in rfl (fvg (hK 12 (memE rfl)) hG)), trivial⟩) rfl (fun hG wq hI => by exact op_index_str (i := n) rfl Try.underlying9 rfl rfl rfl (by have h := hG; simp only [Bool.and_eq_true, decide_eq_true_eq] at h; omega) rfl) ?_
    refine w_moveG (.inl rfl) (fun vs w hK => wantsT rfl (fv (hK 10 (memE rfl)))) (fun hG vs w hK => (rho_out rfl rfl)) ?_
    refine w_moveG (.inl rfl) (fun vs w hK => wantsT rfl (fv (hK 10 (memE rfl)))) (fun hG vs w hK => (rho_out rfl rfl)) ?_
    refine w_valG [(20, _), (21, _)] (_) (fun vs w hK => wantsT rfl (fv (hK 10 (memE rfl)))) (fun hG vs w hK => ⟨(rho_in rfl (fvg (hK 14 (memE rfl)) hG)), (rho_in rfl (fvg (hK 15 (memE rfl)) hG)), trivial⟩) rfl (fun hG wq hI => by exact op_index_str (i := n) rfl Try.underlying9 rfl rfl rfl (by have h := hG; simp only [Bool.and_eq_true, decide_eq_true_eq] at h; omega) rfl) ?_
    refine w_valG [(19, _), (22, _)] (_) (fun vs w hK => wantsT rfl (fv (hK 10 (memE rfl)))) (fun hG vs w hK => ⟨(rho_in rfl (fvg (hK 13 (memE rfl)) hG)), (rho_in rfl (fvg (hK 16 (memE rfl)) hG)), trivial⟩) rfl (fun hG wq hI => by exact run_int_eql rfl rfl rfl rfl) ?_
    refine w_and rfl (fun vs w hK => wants_none rfl) (fun vs w hK => (rho_in rfl (fv (hK 10 (memE rfl))))) (fun hB vs w hK => (rho_in rfl (fvg (hK 17 (memE rfl)) hB))) ?_
    refine w_as (c' := .bool D) (congrArg Value.bool HD.out) ?_
    refine w_endM [false, false, false, false, false, false, false, false, false, false, false, false, false, false, false, false, false, false, true] rfl rfl rfl (fun vs wq hI hF => ?_)
    simp only [List.reverse_cons, List.reverse_nil, List.nil_append, List.cons_append, finL_val, finL_of, finL_any, finL_app, finL_new, finL_gr, finL_row, finL_box, finL_nil, Act.put, List.setIfInBounds_toArray, List.set_cons_zero, List.set_cons_succ, Nat.reduceAdd, maskF, finL_imp, Bool.not_false, Bool.not_true, Bool.true_and, Bool.false_and]
    have HW2 := Lib.hid (below_then HW.out HW.out.size hI)
    clear hI hF
    cases D with
    | true =>
      have hlt : n < m := of_decide_eq_true HDD.out
      go_wp2_with fail
      go_roundw
      case rel => exact ⟨n + 1, by omega, by go_num, HW2⟩
      case measure => simp [intOf]; omega
    | false =>
      have hge : ¬ n < m := of_decide_eq_false HDD.out
      obtain rfl : n = m := by omega
      go_wp2_with fail
      go_ret
      exact ⟨rfl, HW2.out⟩
end Go.Proofs.Ytnkeijdpjcclcaa.Pg

