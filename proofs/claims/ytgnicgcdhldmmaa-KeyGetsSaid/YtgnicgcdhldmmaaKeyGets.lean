/- The walk of the law KeyGets. -/
import Derived.Test.YtgnicgcdhldmmaaKeyE
import Derived.Test.YtgnicgcdhldmmaaKeyN
namespace Go.Proofs.Ytgnicgcdhldmmaa.Key
set_option linter.unusedVariables false
set_option linter.unusedSimpArgs false
open Go.Proofs.Ytgnicgcdhldmmaa.Kit Go.Proofs.Ytgnicgcdhldmmaa.Num Go.RowKit Go.Proofs.YtgnicgcdhldmmaaW.PrintWords Go.Proofs.YtgnicgcdhldmmaaW.PrintLast Go.Proofs.YtgnicgcdhldmmaaW.PrintMore NumPure
theorem getE_small {l : List Int} (hb : Byte l) : (getE l).1.ok ∧ (getE l).1.key.size ≤ 70000 ∧ (getE l).1.val.size ≤ 70000 := by
  rcases getE_err l with h | ⟨_, h, _⟩
  · obtain ⟨h1, _, _⟩ := getE_ok hb h
    obtain ⟨k1, k2, k3, k4, k5⟩ := check_zero.1 h1
    exact ⟨⟨by omega, by omega, by omega⟩, by omega, by omega⟩
  · rw [h]
    exact ⟨⟨by show 0 < _; omega, by show 0 ≤ _; omega, by show 0 ≤ _; omega⟩, by show 0 ≤ _; omega, by show 0 ≤ _; omega⟩
theorem reg_7_7 : RegOk (opsOf Try.f7 7) [[], [0], [0, 1], [0, 1, 2], [0, 1, 2, 3], [0, 1, 2, 3, 4], [0, 1, 2, 3, 4, 5], [0, 1, 2, 3, 4, 5, 6], [0, 1, 2, 3, 4, 5, 6], [0, 1, 2, 3, 4, 5, 6, 7, 8], [0, 1, 2, 3, 4, 5, 6, 7, 8, 9], [0, 1, 2, 3, 4, 5, 6, 7, 8, 9, 10], [0, 1, 2, 3, 4, 5, 6, 7, 8, 9, 10, 11], [0, 1, 2, 3, 4, 5, 6, 7, 8, 9, 10, 11, 12], [0, 1, 2, 3, 4, 5, 6, 7, 8, 9, 10, 11, 12, 13], [0, 1, 2, 3, 4, 5, 6, 7, 8, 9, 10, 11, 12, 13, 14]] [] [some 23, some 24, some 25, some 26, some 27, some 28, some 29, some 30, some 31, some 32, some 33, some 34, some 35, some 36, some 37, some 2] := regOk (by kernel_rfl)
theorem reg_7_8 : RegOk (opsOf Try.f7 8) [[], [0], [0, 1], [0, 1, 2], [0, 1, 2, 3], [0, 1, 2, 3, 4], [0, 1, 2, 3, 4, 5], [0, 1, 2, 3], [0, 1, 2, 3], [0, 1, 2, 3, 7, 8], [0, 1, 2, 3, 7, 8, 9], [0, 1, 2, 3, 4, 5, 6, 7, 8, 9, 10], [0, 1, 2, 3, 4, 5, 6, 7, 8, 9, 10, 11]] [] [some 38, some 39, some 40, some 41, some 42, some 43, some 44, some 45, some 46, some 47, some 48, some 49, some 50] := regOk (by kernel_rfl)
set_option maxRecDepth 20000 in
set_option maxHeartbeats 80000000 in
theorem gets_any (A : Option Addr) (n c : Nat) (l : List Int) (w : World) (hr : Rds .u8 w A n l) (hl : l.length = n) (hm : n * 1 ≤ 140737488351232) (hw : ∀ x ∈ l, (Lit.int .u8 x).wf = true) (hnc : n ≤ c) :
    Calls Try.prog 7 #[.slice A n c] w fun e w' => e = .returned (.bool true) ∧ Below w.heap.size w w' := by
  have hb : Byte l := byte_wf hw
  by_cases hbig : 400 < n
  · have t1 : decide ((400 : Int) < (n : Int)) = true := decide_eq_true (by omega)
    clear hr
    go_enter Try.func7, Try.ntmps7
    go_wp2_with fail
    refine (head_any _).mono ?_
    rintro e w1 ⟨rfl, hb1⟩
    have HW1 := Lib.hid hb1
    clear hb1
    go_wp2_with fail
    go_ret
    exact ⟨rfl, HW1.out⟩
  have t1 : decide ((400 : Int) < (n : Int)) = false := decide_eq_false (by omega)
  have CG := Lib.hid (fun wq (h : Below w.heap.size w wq) => get_ent_any A n c l wq (rds_below hr h) hl (by omega) hnc hb)
  obtain ⟨ho, hk7, hv7⟩ := getE_small hb
  have hok := getE_ok hb
  have herr := getE_err l
  have HCUT := Lib.hid (fun (k : Nat) (hk : k ≤ n) => cut_to (enc := Value.int .u8) (h1 := int_one .u8) 0 tb A n c k hk hnc (k : Int) rfl)
  have HRD := Lib.hid hr
  have HBT := Lib.hid hb
  have HLL := Lib.hid hl
  generalize hg : getE l = G at CG ho hk7 hv7 hok herr
  obtain ⟨Y, K, E⟩ := G
  simp only at CG ho hk7 hv7 hok herr
  have CKY := Lib.hid (fun wq => check_any Y ho wq)
  have CPY := Lib.hid (fun wq => entPut_any Y ho hk7 hv7 (.slice none 0 0) [] wq wq (gr_nil _ _ _) (Below.refl _ _) (by simp))
  have HOK := Lib.hid hok
  have HERR := Lib.hid herr
  have hn4 : n ≤ 400 := by omega
  clear hbig hr hb hl hw hg hok herr ho hk7 hv7 hm
  obtain ⟨yk, ys, yd, yv⟩ := Y
  have CG2 : Hid (∀ wq, Below w.heap.size w wq → Calls Try.prog 16 #[.slice A n c] wq fun e w' => e = .returned (.tuple #[.agg #[.string yk, .int .u64 ys, .bool yd, .string yv], .int .i64 K, .int .i64 E]) ∧ Below wq.heap.size wq w') := Lib.hid CG.out
  clear CG
  go_enter Try.func7, Try.ntmps7
  go_wp2_with fail
  refine (head_any _).mono ?_
  rintro e w1 ⟨rfl, hb1⟩
  have HW1 := Lib.hid hb1
  clear hb1
  go_wp2_with fail
  refine (CG2.out _ HW1.out).mono ?_
  rintro e w2 ⟨rfl, hb2⟩
  have HW2 := Lib.hid (below_then HW1.out HW1.out.size hb2)
  clear hb2 CG2 HW1
  go_upto_region 6 with fail
  have hx3 : (w2.alloc (.cells #[.string yk, .int .u64 ys, .bool yd, .string yv] 24)).heap[w2.heap.size]? = some (.cells (Ent.mk yk ys yd yv).cells.toArray 24) := heap_alloc_new w2 _
  have hb3 : Below w2.heap.size w2 (w2.alloc (.cells #[.string yk, .int .u64 ys, .bool yd, .string yv] 24)) := below_alloc (Below.refl _ _) _
  have HW3 := Lib.hid (below_then HW2.out HW2.out.size hb3)
  have HX3 := Lib.hid hx3
  generalize w2.alloc (.cells #[.string yk, .int .u64 ys, .bool yd, .string yv] 24) = w3 at HW3 HX3 ⊢
  clear hx3 hb3 HW2
  by_cases hE : E = 0
  · subst hE
    rw [show ((0 : Nat) : Int) = 0 from rfl]
    obtain ⟨hc0, hlp, hKl⟩ := HOK.out rfl
    generalize hY : Ent.mk yk ys yd yv = Y at CKY CPY HX3 hc0 hlp hKl
    have hKn : K ≤ n := by
      have := congrArg List.length hlp
      rw [List.length_append, hKl, HLL.out] at this
      omega
    have hpt : l.take K = Y.putL := by
      have := congrArg (List.take K) hlp
      rwa [← hKl, List.take_left, hKl] at this
    have HC0 := Lib.hid hc0
    have HLP := Lib.hid hlp
    have HKL := Lib.hid hKl
    have HPT := Lib.hid hpt
    clear hc0 hlp hKl hpt HOK HERR hY
    go_upto_region 8 with fail
    refine draws_ (fun wq => Below w3.heap.size w3 wq) (fun _ => True) (by kernel_rfl) reg_7_8 rfl inv0 (fun _ _ _ _ => trivial) (below_drew (Below.refl _ _)) trivial ?_
    refine w_val [(3, _)] (_) (fun vs w hK => ⟨wants_none rfl, rho_out rfl rfl, trivial⟩) rfl (fun wq hI => by exact run_load_op rfl rfl (load_ent (box_below HX3.out hI))) ?_
    refine w_call [(38, _)] _ _ (by decide) (fun vs w hK => ⟨wants_none rfl, rho_in rfl (fv (hK 0 (by decide))), trivial⟩) rfl rfl Try.func11 (by kernel_rfl) rfl (fun wq hI => CKY.out wq) (margs rfl) ?_
    refine w_val [(39, _)] (_) (fun vs w hK => ⟨wants_none rfl, rho_in rfl (fv (hK 1 (by decide))), trivial⟩) rfl (fun wq hI => by exact run_int_neq rfl rfl rfl rfl) ?_
    refine w_as (c' := .bool false) (by rw [HC0.out]; rfl) ?_
    refine w_move (.inl rfl) (fun vs w hK => ⟨wants_none rfl, rho_in rfl (fv (hK 2 (by decide)))⟩) ?_
    refine w_valG [(3, _)] (_) (fun vs w hK => wantsF rfl (fv (hK 3 (by decide)))) (fun hG vs w hK => ⟨(rho_out rfl rfl), trivial⟩) rfl (fun hG wq hI => by exact run_load_op rfl rfl (load_ent (box_below HX3.out hI))) ?_
    refine w_any (FW.new .u8 5 w3 ([] ++ Y.putL)) (.inl rfl) (fun vs wq hI hK => ?_) ?_
    · refine ob_call [(42, _)] _ (wants_g rfl (fv (hK 3 (by decide)))) ⟨rho_in rfl (fvg (hK 4 (by decide)) rfl), trivial⟩ rfl rfl Try.func15 (by kernel_rfl) rfl (margs rfl) ((CPY.out wq).mono ?_)
      rintro e w4 ⟨v4, rfl, hA⟩
      exact ⟨v4, rfl, hA.bel, ⟨gr_lower hA.own hI.size, below_then hI hI.size hA.bel⟩⟩
    refine w_any (FW.val (.string (strOfNums Y.putL))) (.inl rfl) (fun vs wq hI hK => ?_) ?_
    · have hA : New .u8 5 w3 ([] ++ Y.putL) (vs 5) wq := hK 5 (by decide)
      have hcv := conv_gr (dst := 9) tb Try.underlying5 Try.underlying9 hA.own
      rw [List.nil_append] at hcv
      exact ob_run [(43, _)] (wants_g rfl (fv (hK 3 (by decide)))) ⟨rho_in rfl rfl, trivial⟩ rfl (run_conv_op rfl rfl hcv) ⟨Below.refl _ _, rfl⟩
    refine w_moveG (.inl rfl) (fun vs w hK => wantsF rfl (fv (hK 3 (by decide)))) (fun hG vs w hK => (rho_out rfl rfl)) ?_
    refine w_moveG (.inl rfl) (fun vs w hK => wantsF rfl (fv (hK 3 (by decide)))) (fun hG vs w hK => (rho_out rfl rfl)) ?_
    refine w_valG [(45, _), (46, _)] (_) (fun vs w hK => wantsF rfl (fv (hK 3 (by decide)))) (fun hG vs w hK => ⟨(rho_in rfl (fvg (hK 7 (by decide)) hG)), (rho_in rfl (fvg (hK 8 (by decide)) hG)), trivial⟩) rfl (fun hG wq hI => by exact run_slice_op rfl rfl ((HCUT.out K hKn).1 wq)) ?_
    refine w_valG [(47, _)] (_) (fun vs w hK => wantsF rfl (fv (hK 3 (by decide)))) (fun hG vs w hK => ⟨(rho_in rfl (fvg (hK 9 (by decide)) hG)), trivial⟩) rfl (fun hG wq hI => by exact run_conv_op rfl rfl (conv_rds (dst := 9) tb Try.underlying5 Try.underlying9 ((HCUT.out K hKn).2 wq l (rds_below HRD.out (below_then HW3.out HW3.out.size hI))))) ?_
    refine w_valG [(44, _), (48, _)] (_) (fun vs w hK => wantsF rfl (fv (hK 3 (by decide)))) (fun hG vs w hK => ⟨(rho_in rfl (fv (hK 6 (by decide)))), (rho_in rfl (fvg (hK 10 (by decide)) hG)), trivial⟩) rfl (fun hG wq hI => by exact op_str_nq rfl rfl rfl rfl) ?_
    refine w_or rfl (fun vs w hK => wants_none rfl) (fun vs w hK => (rho_in rfl (fv (hK 3 (by decide))))) (fun hB vs w hK => (rho_in rfl (fvg (hK 11 (by decide)) (gnot hB)))) ?_
    refine w_as (c' := .bool false) (by rw [HPT.out]; simp) ?_
    refine w_end rfl rfl rfl (fun vs wq hI hF => ?_)
    simp only [List.reverse_cons, List.reverse_nil, List.nil_append, List.cons_append, finL_val, finL_of, finL_any, finL_app, finL_new, finL_gr, finL_row, finL_box, finL_nil, Act.put, List.setIfInBounds_toArray, List.set_cons_zero, List.set_cons_succ, Nat.reduceAdd, Bool.not_false, Bool.not_true, Bool.true_and, Bool.false_and]
    have HX4 := Lib.hid (box_below HX3.out hI)
    have HW4 := Lib.hid (below_then HW3.out HW3.out.size hI)
    clear hI hF HX3 HW3 CKY CPY HPT
    obtain ⟨w4, rfl⟩ : ∃ w4 : World, w4 = wq := ⟨_, rfl⟩
    go_wp2_with fail
    go_loopw [6, 7] (fun i p wr => ∃ (k : Nat) (p' : Value), i = .int .i64 k ∧ p' = p ∧ k ≤ K ∧ Hid (Below w.heap.size w wr)) (fun i _ _ => K - (intOf i).toNat)
    case atStart => exact ⟨0, _, rfl, rfl, Nat.zero_le _, HW4⟩
    case round =>
      obtain ⟨k, p', rfl, hp, hk, HB⟩ := hrel
      subst hp
      by_cases hlt : k < K
      · have t2 : (k : Int) < (K : Int) := by omega
        have hcut := (HCUT.out k (by omega)).1
        have hcl : (l.take k).length = k := by rw [List.length_take, HLL.out]; omega
        have he8 : (getE (l.take k)).2.2 = 8 := by
          rw [HLP.out]
          exact getE_cut HC0.out _ k (by rw [HKL.out]; exact hlt)
        have CG3 := Lib.hid (get_ent_any A k c (l.take k) wr ((HCUT.out k (by omega)).2 wr l (rds_below HRD.out HB.out)) hcl (by omega) (by omega) (HBT.out.take k))
        rw [he8] at CG3
        generalize (getE (l.take k)).1 = Z at CG3
        generalize (getE (l.take k)).2.1 = K2 at CG3
        obtain ⟨zk, zs, zd, zv⟩ := Z
        have CG4 : Hid (Calls Try.prog 16 #[.slice A k c] wr fun e w' => e = .returned (.tuple #[.agg #[.string zk, .int .u64 zs, .bool zd, .string zv], .int .i64 K2, .int .i64 8]) ∧ Below wr.heap.size wr w') := CG3
        clear CG3 he8 hcl
        go_wp2_with fail
        refine CG4.out.mono ?_
        rintro e w5 ⟨rfl, hb5⟩
        have HB5 := Lib.hid (below_then HB.out HB.out.size (below_alloc hb5 (.cells #[.string zk, .int .u64 zs, .bool zd, .string zv] 24)))
        clear hb5
        go_wp2_with fail
        go_roundw
        case rel => exact ⟨k + 1, _, by go_num, rfl, by omega, HB5⟩
        case measure => simp [intOf] <;> omega
      · obtain rfl : k = K := by omega
        have t2 : ¬ (k : Int) < (k : Int) := by omega
        go_wp2_with fail
        go_ret
        exact ⟨rfl, HB.out⟩
  · obtain ⟨hE2, hYz, hK0⟩ := HERR.out.resolve_left hE
    have hzero : (Ent.mk yk ys yd yv).eqb Ent.zero = true := by rw [hYz]; exact Ent.eqb_self _
    have HZ := Lib.hid hzero
    have hee : (((E : Int) == 2) || ((E : Int) == 8)) = true := by
      rcases hE2 with e | e
      · rw [e]; rfl
      · rw [e]; rfl
    have HEE := Lib.hid hee
    have t2 : ((E : Int) != 0) = true := by simp; omega
    subst hK0
    clear HOK HERR hYz hzero hE2 hee hE
    go_upto_region 7 with fail
    refine plain_ (fun wq => Below w3.heap.size w3 wq) (fun _ => True) reg_7_7 rfl inv0 (fun _ _ _ _ => trivial) (Below.refl _ _) trivial ?_
    refine w_move (.inl rfl) (fun vs w hK => ⟨wants_none rfl, rho_out rfl rfl⟩) ?_
    refine w_val [(23, _)] (_) (fun vs w hK => ⟨wants_none rfl, rho_in rfl (fv (hK 0 (by decide))), trivial⟩) rfl (fun wq hI => by exact run_int_eql rfl rfl rfl rfl) ?_
    refine w_move (.inl rfl) (fun vs w hK => ⟨wants_none rfl, rho_in rfl (fv (hK 1 (by decide)))⟩) ?_
    refine w_moveG (.inl rfl) (fun vs w hK => wantsF rfl (fv (hK 2 (by decide)))) (fun hG vs w hK => (rho_out rfl rfl)) ?_
    refine w_valG [(26, _)] (_) (fun vs w hK => wantsF rfl (fv (hK 2 (by decide)))) (fun hG vs w hK => ⟨(rho_in rfl (fvg (hK 3 (by decide)) hG)), trivial⟩) rfl (fun hG wq hI => by exact run_int_eql rfl rfl rfl rfl) ?_
    refine w_or rfl (fun vs w hK => wants_none rfl) (fun vs w hK => (rho_in rfl (fv (hK 2 (by decide))))) (fun hB vs w hK => (rho_in rfl (fvg (hK 4 (by decide)) (gnot hB)))) ?_
    refine w_as (c' := .bool true) (congrArg Value.bool HEE.out) ?_
    refine w_move (.inl rfl) (fun vs w hK => ⟨wants_none rfl, rho_in rfl (fv (hK 5 (by decide)))⟩) ?_
    refine w_valG [(3, _)] (_) (fun vs w hK => wantsT rfl (fv (hK 6 (by decide)))) (fun hG vs w hK => ⟨(rho_out rfl rfl), trivial⟩) rfl (fun hG wq hI => by exact run_load_op rfl rfl (load_ent (box_below HX3.out hI))) ?_
    refine w_valG [] (Ent.zero.ag) (fun vs w hK => wantsT rfl (fv (hK 6 (by decide)))) (fun hG vs w hK => trivial) rfl (fun hG wq hI => by simp only [execOp, Option.map_some, Option.map_none, lk_tmp, lk_const, lkT_cons, ↓reduceIte, Nat.reduceEqDiff]; go_simp; (first | done | rfl)) ?_
    refine w_valG [(30, _), (31, _)] (_) (fun vs w hK => wantsT rfl (fv (hK 6 (by decide)))) (fun hG vs w hK => ⟨(rho_in rfl (fvg (hK 7 (by decide)) hG)), (rho_in rfl (fvg (hK 8 (by decide)) hG)), trivial⟩) rfl (fun hG wq hI => by exact op_ent_eql rfl rfl rfl HZ.out) ?_
    refine w_and rfl (fun vs w hK => wants_none rfl) (fun vs w hK => (rho_in rfl (fv (hK 6 (by decide))))) (fun hB vs w hK => (rho_in rfl (fvg (hK 9 (by decide)) hB))) ?_
    refine w_move (.inl rfl) (fun vs w hK => ⟨wants_none rfl, rho_in rfl (fv (hK 10 (by decide)))⟩) ?_
    refine w_moveG (.inl rfl) (fun vs w hK => wantsT rfl (fv (hK 11 (by decide)))) (fun hG vs w hK => (rho_out rfl rfl)) ?_
    refine w_valG [(35, _)] (_) (fun vs w hK => wantsT rfl (fv (hK 11 (by decide)))) (fun hG vs w hK => ⟨(rho_in rfl (fvg (hK 12 (by decide)) hG)), trivial⟩) rfl (fun hG wq hI => by exact run_int_eql rfl rfl rfl rfl) ?_
    refine w_and rfl (fun vs w hK => wants_none rfl) (fun vs w hK => (rho_in rfl (fv (hK 11 (by decide))))) (fun hB vs w hK => (rho_in rfl (fvg (hK 13 (by decide)) hB))) ?_
    refine w_as (c' := .bool true) (by rfl) ?_
    refine w_move (.inr rfl) (fun vs w hK => ⟨wants_none rfl, rho_in rfl (fv (hK 14 (by decide)))⟩) ?_
    refine w_end rfl rfl rfl (fun vs wq hI hF => ?_)
    simp only [List.reverse_cons, List.reverse_nil, List.nil_append, List.cons_append, finL_val, finL_of, finL_any, finL_app, finL_new, finL_gr, finL_row, finL_box, finL_nil, Act.put, List.setIfInBounds_toArray, List.set_cons_zero, List.set_cons_succ, Nat.reduceAdd, Bool.not_false, Bool.not_true, Bool.true_and, Bool.false_and]
    have HW4 := Lib.hid (below_then HW3.out HW3.out.size hI)
    clear hI hF
    go_wp2_with fail
    go_ret
    exact ⟨rfl, HW4.out⟩
end Go.Proofs.Ytgnicgcdhldmmaa.Key

