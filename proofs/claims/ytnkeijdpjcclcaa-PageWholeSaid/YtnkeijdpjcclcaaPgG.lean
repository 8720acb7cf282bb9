/- The law's head of layer 12. -/
import Derived.Test.YtnkeijdpjcclcaaPgF
namespace Go.Proofs.Ytnkeijdpjcclcaa.Pg
set_option linter.unusedVariables false
set_option linter.unusedSimpArgs false
open Go.Proofs.Ytnkeijdpjcclcaa.Kit Go.Proofs.Ytnkeijdpjcclcaa.Num Go.RowKit Go.Proofs.YtnkeijdpjcclcaaW.PrintWords Go.Proofs.YtnkeijdpjcclcaaW.PrintLast Go.Proofs.YtnkeijdpjcclcaaW.PrintMore NumPure
theorem reg_14_4 : RegOk (opsOf Try.f14 4) [[], [0], [0, 1], [0, 1, 2], [0, 1, 2, 3], [0, 1, 2, 3, 4], [0, 1, 2, 3, 4, 5], [0, 1, 2, 3, 4, 5, 6], [0, 1, 2, 3, 4, 5, 6, 7], [0, 1, 2, 3, 4, 5, 6, 7, 8], [0, 1, 2, 3, 4, 5, 6, 7, 8, 9], [0, 1, 2, 3, 4, 5, 6, 7, 8, 9, 10], [0, 1, 2, 3, 4, 5, 6, 7, 8, 9, 10, 11], [0, 1, 2, 3, 4, 5, 6, 7, 8, 9, 10, 11, 12], [0, 1, 2, 3, 4, 5, 6, 7, 8, 9, 10, 11, 12, 13], [0, 1, 2, 3, 4, 5, 6, 7, 8, 9, 10, 11, 12, 13, 14], [0, 1, 2, 3, 4, 5, 6, 7, 8, 9, 10, 11, 12, 13, 14, 15], [0, 1, 2, 3, 4, 5, 6, 7, 8, 9, 10, 11, 12, 13, 14, 15, 16], [0, 1, 2, 3, 4, 5, 6, 7, 8, 9, 10, 11, 12, 13, 14, 15, 16, 17], [0, 1, 2, 3, 4, 5, 6, 7, 8, 9, 10, 11, 12, 13, 14, 15, 16, 17, 18], [0, 1, 2, 3, 4, 5, 6, 7, 8, 9, 10, 11, 12, 13, 14, 15, 16, 17, 18, 19], [0, 1, 2, 3, 4, 5, 6, 7, 8, 9, 10, 11, 12, 13, 14, 15, 16, 17, 18, 19, 20], [0, 1, 2, 3, 4, 5, 6, 7, 8, 9, 10, 11, 12, 13, 14, 15, 16, 17, 18, 19, 20, 21], [0, 1, 2, 3, 4, 5, 6, 7, 8, 9, 10, 11, 12, 13, 14, 15, 16, 17, 18, 19, 20, 21, 22], [0, 1, 2, 3, 4, 5, 6, 7, 8, 9, 10, 11, 12, 13, 14, 15, 16, 17, 18, 19, 20, 21, 22, 23], [0, 1, 2, 3, 4, 5, 6, 7, 8, 9, 10, 11, 12, 13, 14, 15, 16, 17, 18, 19, 20, 21, 22, 23, 24], [0, 1, 2, 3, 4, 5, 6, 7, 8, 9, 10, 11, 12, 13, 14, 15, 16, 17, 18, 19, 20, 21, 22, 23, 24, 25]] [] [some 22, some 23, some 24, some 25, some 26, some 27, some 28, some 29, some 30, some 31, some 32, some 33, some 34, some 35, some 36, some 37, some 38, some 39, some 40, some 41, some 42, some 43, some 44, some 45, some 46, some 47, some 0] := regOk (by kernel_rfl)
set_option maxRecDepth 20000 in
set_option maxHeartbeats 1600000 in
theorem head_any (w : World) : Calls Try.prog 14 #[] w fun e w' => e = .returned (.bool true) ∧ Below w.heap.size w w' := by
  have C0 := Lib.hid (make_page none 0 0 [] w (sts_nil _ _ _ _) (fun j hj => absurd hj (by simp)) (fun p hp => by cases hp))
  go_enter Try.func14, Try.ntmps14
  go_wp2_with fail
  refine C0.out.mono ?_
  rintro e w1 ⟨v1, rfl, hg1, hb1⟩
  clear C0
  obtain ⟨A1, n1, c1, rfl, _, _, _, hr1⟩ := gr_open hg1
  have HR1 := Lib.hid hr1
  have HB1 := Lib.hid hb1
  clear hg1 hb1 hr1
  have hsz1 : ∀ p ∈ ps1, p.1.size ≤ 1000000 ∧ p.2.size ≤ 1000000 := by
    intro p hp
    rw [List.mem_singleton.1 hp]
    exact ⟨by decide, by decide⟩
  have hba : Below w1.heap.size w1 (w1.alloc (.cells #[.string ⟨#[97]⟩, .string ⟨#[120]⟩] 30)) := below_alloc (Below.refl _ _) _
  have C1 := Lib.hid (make_page (some ⟨w1.heap.size, 0, none⟩) 1 1 ps1 (w1.alloc (.cells #[.string ⟨#[97]⟩, .string ⟨#[120]⟩] 30)) (sts_one encP_len rfl (heap_alloc_new w1 _)) good1 hsz1)
  have HBA := Lib.hid (below_then HB1.out HB1.out.size hba)
  have HRA := Lib.hid (rds_below HR1.out hba)
  clear hba HB1 HR1
  go_wp2_with fail
  refine C1.out.mono ?_
  rintro e w2 ⟨v2, rfl, hg2, hb2⟩
  obtain ⟨A2, n2, c2, rfl, hc2, HL2, _, hr2⟩ := gr_open hg2
  have hn2 : n2 = 13 := by rw [← HL2.out, page1]; rfl
  have HR2 := Lib.hid hr2
  have HRB := Lib.hid (rds_below HRA.out hb2)
  have HB2 := Lib.hid (below_then HBA.out HBA.out.size hb2)
  have C2 := Lib.hid (parse_any A2 n2 c2 (pageOf (nn ps1)) w2 hr2 (page_byte (nn_byte ps1)) hc2 (by omega))
  clear hg2 hb2 hr2 HRA HBA C1 HL2 hn2
  go_wp2_with fail
  refine C2.out.mono ?_
  rintro e w3 ⟨hb3, bv, wv, ex, rfl, hp⟩
  have hip1 : IsPage (pageOf (nn ps1)) (nn ps1) := ⟨by rw [nn_length]; exact good1, rfl⟩
  rcases hp with ⟨rfl, ps, hip, hbv, hwv⟩ | ⟨_, _, _, hno⟩
  · obtain rfl : ps = ps1 := nn_inj (page_inj hip.1 hip1.1 hip.2)
    have HR3 := Lib.hid (rds_below HR2.out hb3)
    have HRC := Lib.hid (rds_below HRB.out hb3)
    have HB3 := Lib.hid (below_then HB2.out HB2.out.size hb3)
    have HBV := Lib.hid hbv
    have HWV := Lib.hid hwv
    obtain ⟨Ab, nb, cb, rfl, _⟩ := gr_open hbv
    obtain ⟨Aw, nw, cw, rfl, _⟩ := gr_open hwv
    clear hb3 hip hip1 hbv hwv HR2 HRB HB2 C2
    go_upto_region 4 with (first | (refine wpList_store_box rfl 36 (.tmp 5) (.tmp 20) rfl w3.heap.size [.slice Ab nb cb, .slice Aw nw cw] rfl rfl (heap_alloc_new w3 _) rfl info36 rfl ?_; intro w4 hs4; have HS4 := Lib.hid hs4; clear hs4) | fail)
    have hb4 : Below w3.heap.size w3 w4 := HS4.out.then_ (below_alloc (Below.refl _ _) _) (Nat.le_refl _)
    have HX4 := Lib.hid HS4.out.at_
    have HR4 := Lib.hid (rds_below HR3.out hb4)
    have HRD := Lib.hid (rds_below HRC.out hb4)
    have HB4 := Lib.hid (below_then HB3.out HB3.out.size hb4)
    have HBV4 := Lib.hid (gr_below HBV.out hb4)
    have HWV4 := Lib.hid (gr_below HWV.out hb4)
    clear hb4 HS4 HR3 HRC HB3 HBV HWV
    generalize w3.heap.size = b4 at HX4 ⊢
    refine plain_ (fun wq => Below w4.heap.size w4 wq) (fun _ => True) reg_14_4 rfl inv0 (fun _ _ _ _ => trivial) (Below.refl _ _) trivial ?_
    refine w_move (.inl rfl) (fun vs w hK => ⟨wants_none rfl, rho_out rfl rfl⟩) ?_
    refine w_val [(22, _)] (_) (fun vs w hK => ⟨wants_none rfl, rho_in rfl (fv (hK 0 (memE rfl))), trivial⟩) rfl (fun wq hI => by exact run_int_eql (r := true) rfl rfl rfl rfl) ?_
    refine w_move (.inl rfl) (fun vs w hK => ⟨wants_none rfl, rho_in rfl (fv (hK 1 (memE rfl)))⟩) ?_
    refine w_move (.inl rfl) (fun vs w hK => ⟨wants_g rfl (fv (hK 2 (memE rfl))), rho_out rfl rfl⟩) ?_
    refine w_val [(25, _)] (.string ⟨#[0, 0, 0, 0]⟩) (fun vs w hK => ⟨wants_g rfl (fv (hK 2 (memE rfl))), rho_in rfl (fv (hK 3 (memE rfl))), trivial⟩) rfl (fun wq hI => by exact run_conv_op rfl rfl ((conv_rds (dst := 9) tb Try.underlying5 Try.underlying9 (rds_below HRD.out hI)).trans (congrArg (fun s => Result.ok (Value.string s) wq) str0))) ?_
    refine w_val [(26, _)] (_) (fun vs w hK => ⟨wants_g rfl (fv (hK 2 (memE rfl))), rho_in rfl (fv (hK 4 (memE rfl))), trivial⟩) rfl (fun wq hI => by exact run_eql_same rfl rfl rfl rfl) ?_
    refine w_pick (b := true) rfl (fun vs w hK => ⟨wants_none rfl, (rho_in rfl (fv (hK 2 (memE rfl)))), (rho_in rfl (fv (hK 5 (memE rfl))))⟩) ?_
    refine w_move (.inl rfl) (fun vs w hK => ⟨wants_none rfl, rho_in rfl (fv (hK 6 (memE rfl)))⟩) ?_
    refine w_move (.inl rfl) (fun vs w hK => ⟨wants_g rfl (fv (hK 7 (memE rfl))), rho_out rfl rfl⟩) ?_
    refine w_val [(30, _)] (_) (fun vs w hK => ⟨wants_g rfl (fv (hK 7 (memE rfl))), rho_in rfl (fv (hK 8 (memE rfl))), trivial⟩) rfl (fun wq hI => by exact run_int_eql (r := true) rfl rfl rfl rfl) ?_
    refine w_pick (b := true) rfl (fun vs w hK => ⟨wants_none rfl, (rho_in rfl (fv (hK 7 (memE rfl)))), (rho_in rfl (fv (hK 9 (memE rfl))))⟩) ?_
    refine w_move (.inl rfl) (fun vs w hK => ⟨wants_none rfl, rho_in rfl (fv (hK 10 (memE rfl)))⟩) ?_
    refine w_move (.inl rfl) (fun vs w hK => ⟨wants_g rfl (fv (hK 11 (memE rfl))), rho_out rfl rfl⟩) ?_
    refine w_val [(34, _)] (_) (fun vs w hK => ⟨wants_g rfl (fv (hK 11 (memE rfl))), rho_in rfl (fv (hK 12 (memE rfl))), trivial⟩) rfl (fun wq hI => by exact run_int_eql (r := true) rfl rfl rfl rfl) ?_
    refine w_pick (b := true) rfl (fun vs w hK => ⟨wants_none rfl, (rho_in rfl (fv (hK 11 (memE rfl)))), (rho_in rfl (fv (hK 13 (memE rfl))))⟩) ?_
    refine w_move (.inl rfl) (fun vs w hK => ⟨wants_none rfl, rho_in rfl (fv (hK 14 (memE rfl)))⟩) ?_
    refine w_move (.inl rfl) (fun vs w hK => ⟨wants_g rfl (fv (hK 15 (memE rfl))), rho_out rfl rfl⟩) ?_
    refine w_val [(38, _)] (.string ⟨#[0, 1, 1, 97, 120, 0, 0, 0, 0, 1, 0, 0, 0]⟩) (fun vs w hK => ⟨wants_g rfl (fv (hK 15 (memE rfl))), rho_in rfl (fv (hK 16 (memE rfl))), trivial⟩) rfl (fun wq hI => by exact run_conv_op rfl rfl ((conv_rds (dst := 9) tb Try.underlying5 Try.underlying9 (rds_below HR4.out hI)).trans (congrArg (fun s => Result.ok (Value.string s) wq) str1))) ?_
    refine w_val [(39, _)] (_) (fun vs w hK => ⟨wants_g rfl (fv (hK 15 (memE rfl))), rho_in rfl (fv (hK 17 (memE rfl))), trivial⟩) rfl (fun wq hI => by exact run_eql_same rfl rfl rfl rfl) ?_
    refine w_pick (b := true) rfl (fun vs w hK => ⟨wants_none rfl, (rho_in rfl (fv (hK 15 (memE rfl)))), (rho_in rfl (fv (hK 18 (memE rfl))))⟩) ?_
    refine w_move (.inl rfl) (fun vs w hK => ⟨wants_none rfl, rho_in rfl (fv (hK 19 (memE rfl)))⟩) ?_
    refine w_val [(5, _)] (.agg [Value.slice Ab nb cb, .slice Aw nw cw].toArray) (fun vs w hK => ⟨wants_g rfl (fv (hK 20 (memE rfl))), rho_out rfl rfl, trivial⟩) rfl (fun wq hI => by exact op_load_at rfl ⟨b4, 0, none⟩ [.slice Ab nb cb, .slice Aw nw cw] rfl (box_cells (box_stays HX4.out hI)) Try.underlying36 rfl info36) ?_
    refine w_callF (FW.of (fun v W => ∃ A n c, v = .slice A n c ∧ n = 1) (fun _ _ _ h _ => h)) [(43, _)] _ (by decide) (fun vs w hK => ⟨wants_g rfl (fv (hK 20 (memE rfl))), rho_in rfl (fv (hK 21 (memE rfl))), trivial⟩) rfl rfl Try.func21 (by kernel_rfl) rfl (fun wq hI => (all_page _ _ ps1 wq w2.heap.size good1 (gr_below HBV4.out hI) (gr_below HWV4.out hI)).mono fun e w' ⟨v, he, ho, hb⟩ => ⟨v, he, hb, by obtain ⟨A, n, c, e1, _, e2, _⟩ := ownk_open encP_len ho; exact ⟨A, n, c, e1, e2.out.symm⟩⟩) (margs rfl) ?_
    refine w_any (.val (.int .i64 1)) (by decide) (fun vs wq hI hK => ?_) ?_
    · obtain ⟨A, n, c, e1, rfl⟩ : ∃ A n c, vs 22 = .slice A n c ∧ n = 1 := hK 22 (memE rfl)
      exact ob_run [(44, .slice A 1 c)] (wants_g rfl (fv (hK 20 (memE rfl)))) ⟨rho_in rfl e1, trivial⟩ rfl (run_len_sl rfl Try.underlying22 rfl rfl) ⟨Below.refl _ _, rfl⟩
    refine w_val [(45, _)] (_) (fun vs w hK => ⟨wants_g rfl (fv (hK 20 (memE rfl))), rho_in rfl (fv (hK 23 (memE rfl))), trivial⟩) rfl (fun wq hI => by exact run_int_eql (r := true) rfl rfl rfl rfl) ?_
    refine w_pick (b := true) rfl (fun vs w hK => ⟨wants_none rfl, (rho_in rfl (fv (hK 20 (memE rfl)))), (rho_in rfl (fv (hK 24 (memE rfl))))⟩) ?_
    refine w_move (.inr rfl) (fun vs w hK => ⟨wants_none rfl, rho_in rfl (fv (hK 25 (memE rfl)))⟩) ?_
    refine w_end rfl rfl rfl (fun vs wq hI hF => ?_)
    simp only [List.reverse_cons, List.reverse_nil, List.nil_append, List.cons_append, finL_val, finL_of, finL_any, finL_app, finL_new, finL_gr, finL_row, finL_box, finL_nil, Act.put, List.setIfInBounds_toArray, List.set_cons_zero, List.set_cons_succ, Nat.reduceAdd]
    have HB9 := Lib.hid (below_then HB4.out HB4.out.size hI)
    clear hI hF
    go_wp2_with fail
    go_ret
    exact ⟨rfl, HB9.out⟩
  · exact absurd hip1 (hno _)
end Go.Proofs.Ytnkeijdpjcclcaa.Pg

