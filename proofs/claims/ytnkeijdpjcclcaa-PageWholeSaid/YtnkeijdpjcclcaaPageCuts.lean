/- The walk of the law PageCuts: a page that is cut short, or of which a byte is turned, is another one, or none. -/
import Derived.Test.YtnkeijdpjcclcaaPageParses
import Derived.Test.YtnkeijdpjcclcaaPgH
namespace Go.Proofs.Ytnkeijdpjcclcaa.Pg
set_option linter.unusedVariables false
set_option linter.unusedSimpArgs false
open Go.Proofs.Ytnkeijdpjcclcaa.Kit Go.Proofs.Ytnkeijdpjcclcaa.Num Go.RowKit Go.Proofs.YtnkeijdpjcclcaaW.PrintWords Go.Proofs.YtnkeijdpjcclcaaW.PrintLast Go.Proofs.YtnkeijdpjcclcaaW.PrintMore NumPure
theorem reg_5_8 : RegOk (opsOf Try.f5 8) [[], [0], [], [2], [0, 1, 2, 3], [0, 1, 2, 3, 4]] [] [some 25, some 26, some 27, some 28, some 29, some 1] := regOk (by kernel_rfl)
theorem reg_5_12 : RegOk (opsOf Try.f5 12) [[], [0], [0, 1], [0, 1, 2], [0, 1, 2, 3], [0, 1, 2, 3, 4], [0, 1, 2, 3, 4, 5], [0, 1, 2, 3, 4, 5, 6], [0, 1, 2, 3, 4, 5, 6, 7], [0, 1, 2, 3, 4, 5, 6], [0, 1, 2, 3, 4, 5, 6, 7, 8, 9], [0, 1, 2, 3, 4, 5, 6, 7, 8, 9, 10]] [] [some 45, some 46, some 47, some 48, some 49, some 50, some 51, some 52, some 53, some 54, some 55, some 56] := regOk (by kernel_rfl)
theorem reg_5_15 : RegOk (opsOf Try.f5 15) [[], [0], [0, 1], [0, 1, 2], [0, 1, 2, 3], [0, 1, 2], [0, 1, 2, 3, 4, 5], [0, 1, 2, 3, 4, 5, 6], [0, 1, 2, 3, 4, 5, 6, 7], [0, 1, 2, 3, 4, 5, 6, 7, 8]] [] [some 64, some 65, some 66, some 67, some 68, some 69, some 70, some 71, some 72, some 6] := regOk (by kernel_rfl)
set_option maxRecDepth 20000 in
set_option maxHeartbeats 3200000 in
theorem cuts_any (A : Option Addr) (n c : Nat) (ps : List PB) (at_ bits : Int) (w : World) (hl : Sts encP 2 w A n ps) (hnc : n ≤ c) (hok : ∀ z ∈ ps, okP z) (wat : (Lit.int .i64 at_).wf = true) (wb : (Lit.int .u8 bits).wf = true) :
    Calls Try.prog 5 #[.slice A n c, .int .i64 at_, .int .u8 bits] w fun e w' => e = .returned (.bool true) ∧ Below w.heap.size w w' := by
  have hb8 := wf_u8 wb
  obtain ⟨bt, rfl⟩ : ∃ b : Nat, bits = b := ⟨bits.toNat, by omega⟩
  have hbt : bt < 256 := by omega
  have HST := Lib.hid hl
  have C0 := Lib.hid (head_any w)
  obtain ⟨q0, hq0, hq1⟩ := and16 at_
  have HQ := Lib.hid hq0
  clear hl hok hb8 wb wat hq0
  go_enter Try.func5, Try.ntmps5
  go_wp2_with fail
  refine C0.out.mono ?_
  rintro e w1 ⟨rfl, hb1⟩
  have HB1 := Lib.hid hb1
  have CB := Lib.hid (big_any A n c ps w1 (sts_below HST.out hb1))
  clear hb1 C0
  go_wp2_with fail
  refine CB.out.mono ?_
  rintro e w2 ⟨B, rfl, hb2, hsmall⟩
  have HB2 := Lib.hid (below_then HB1.out HB1.out.size hb2)
  have HSM := Lib.hid hsmall
  clear hb2 hsmall HB1 CB
  cases B with
  | true =>
    go_wp2_with fail
    go_ret
    exact ⟨rfl, HB2.out⟩
  | false =>
  obtain ⟨hn60, hsz⟩ := HSM.out rfl
  have CM := Lib.hid (make_any A n c ps w2 (sts_below HST.out HB2.out) (by omega) (fun p hp => by have := hsz p hp; omega))
  clear HSM hsz
  go_wp2_with fail
  refine CM.out.mono ?_
  rintro e w3 ⟨hb3, v3, ex, rfl, hp⟩
  have HB3 := Lib.hid (below_then HB2.out HB2.out.size hb3)
  clear hb3 HB2 CM
  rcases hp with ⟨rfl, hgood, hgr⟩ | hbad
  · obtain ⟨A3, nb, c3, rfl, h3c, HL3, _, hr3⟩ := gr_open hgr
    have hpl := page_length (nn ps)
    have hbf := body_fit hgood
    have hnl : (nn ps).length = n := by rw [nn_length]; exact HST.out.len
    have hcq : cntAt (nn ps).length ≤ 1000 := by rw [hnl]; unfold cntAt; omega
    have hbn : nb ≤ 300000 := by rw [← HL3.out, hpl]; omega
    have hb4 : 4 ≤ nb := by rw [← HL3.out, hpl]; omega
    have hby := page_byte (nn_byte ps)
    have HIP : Hid (IsPage (pageOf (nn ps)) (nn ps)) := Lib.hid ⟨hgood, rfl⟩
    generalize hpg : pageOf (nn ps) = xs at hgr hr3 HL3 hby HIP
    have HPG := Lib.hid hpg
    have HGR := Lib.hid hgr
    have HRD := Lib.hid hr3
    have HBY := Lib.hid hby
    have hlt : q0 % nb < nb := Nat.mod_lt _ (by omega)
    clear hgr hr3 hby hpg hpl hbf hnl hgood hcq
    go_upto_region 8 with fail
    refine plain_ (fun wq => Below w3.heap.size w3 wq) (fun _ => True) reg_5_8 rfl inv0 (fun _ _ _ _ => trivial) (Below.refl _ _) trivial ?_
    refine w_move (.inl rfl) (fun vs w hK => ⟨wants_none rfl, rho_out rfl rfl⟩) ?_
    refine w_val [(25, _)] (_) (fun vs w hK => ⟨wants_none rfl, rho_in rfl (fv (hK 0 (memE rfl))), trivial⟩) rfl (fun wq hI => by exact op_and rfl rfl rfl HQ.out) ?_
    refine w_move (.inl rfl) (fun vs w hK => ⟨wants_none rfl, rho_out rfl rfl⟩) ?_
    refine w_val [(27, _)] (_) (fun vs w hK => ⟨wants_none rfl, rho_in rfl (fv (hK 2 (memE rfl))), trivial⟩) rfl (fun wq hI => by exact run_len_sl rfl Try.underlying25 rfl rfl) ?_
    refine w_val [(26, _), (28, _)] (_) (fun vs w hK => ⟨wants_none rfl, rho_in rfl (fv (hK 1 (memE rfl))), rho_in rfl (fv (hK 3 (memE rfl))), trivial⟩) rfl (fun wq hI => by exact op_rem rfl rfl rfl (by omega) (rem_nat q0 nb)) ?_
    refine w_move (.inr rfl) (fun vs w hK => ⟨wants_none rfl, rho_in rfl (fv (hK 4 (memE rfl)))⟩) ?_
    refine w_end rfl rfl rfl (fun vs wq hI hF => ?_)
    simp only [List.reverse_cons, List.reverse_nil, List.nil_append, List.cons_append, finL_val, finL_of, finL_any, finL_app, finL_new, finL_gr, finL_row, finL_box, finL_nil, Act.put, List.setIfInBounds_toArray, List.set_cons_zero, List.set_cons_succ, Nat.reduceAdd]
    have HB4 := Lib.hid (below_then HB3.out HB3.out.size hI)
    have HGR4 := Lib.hid (gr_below HGR.out hI)
    have HRD4 := Lib.hid (rds_below HRD.out hI)
    clear hI hF HB3 HGR HRD HQ hq1
    obtain ⟨w4, rfl⟩ : ∃ w4 : World, w4 = wq := ⟨_, rfl⟩
    generalize q0 % nb = p at hlt ⊢
    have hO := own_lit_ .u8 5 w4 w4.heap.size [] 0 rfl (Nat.le_refl _) (by simp)
    have hb2 := below_alloc (Below.refl w4.heap.size w4) (.cells (nums .u8 []).toArray 5)
    have HO : Hid (Gr .u8 5 (w4.alloc (.cells #[] 5)) w4.heap.size (.slice (some ⟨w4.heap.size, 0, none⟩) 0 0) []) := Lib.hid (.inl hO)
    have HB : Hid (Below w4.heap.size w4 (w4.alloc (.cells #[] 5))) := Lib.hid hb2
    have HR1 := Lib.hid (rds_below HRD4.out HB.out)
    clear hO hb2
    go_upto_region 10 with (at_builtin; refine gapp_row (h1 := int_one .u8) tb rfl (.tmp 30) (.tmp 31) rfl rfl rfl HO.out HR1.out HB.out HB.out.size ?cL ?_; (case cL => simp; omega); intro v5 w5 ho hb3 hs1 hf; have HO5 := Lib.hid ho; have HB5 := Lib.hid hb3; clear ho hb3 hs1 hf)
    rw [List.nil_append] at HO5
    have hxl : xs.length = nb := HL3.out
    obtain ⟨g, n', cap, rfl, HLg, hpos, hmg, hcg, hgb, hgl⟩ := gr_form HO5.out (by omega)
    obtain rfl : n' = nb := by rw [← HLg.out]; exact hxl
    obtain ⟨hcl, hfr⟩ := gr_cell 0 HO5.out p hlt
    obtain ⟨a, ha, ha256⟩ := getD_nat HBY.out p
    rw [ha] at hcl
    have hxor := xor8 a bt ha256 hbt
    have HA := Lib.hid ha
    have hx256 : a ^^^ bt < 256 := Nat.xor_lt_two_pow (n := 8) ha256 hbt
    obtain ⟨X, hX⟩ : ∃ X, a ^^^ bt = X := ⟨_, rfl⟩
    have HX := Lib.hid hX
    rw [hX] at hxor hx256
    have HGR5 := Lib.hid (gr_below HGR4.out HB5.out)
    have hgw : ∀ j, (Value.slice A3 n' c3).ownBlock = some j → j < w4.heap.size := fun j hj => gr_lt HGR4.out j hj
    have HGR6 : Hid (Gr .u8 5 (w5.setCell ⟨g, p, none⟩ (.int .u8 (X : Nat))) w2.heap.size (.slice A3 n' c3) xs) := Lib.hid (gr_move HGR5.out fun j hj => Below.heap_setCell _ _ _ _ (by have := hgw j hj; show j ≠ g; omega))
    have hg6 := gr_set HO5.out p ((X : Nat) : Int)
    obtain ⟨A6, n6, c6, e6, _, _, _, hr6⟩ := gr_open hg6
    injection e6 with e61 e62 e63
    subst e61 e62 e63
    have hw4 : w.heap.size ≤ w4.heap.size := HB4.out.size
    have HB6 : Hid (Below w.heap.size w (w5.setCell ⟨g, p, none⟩ (.int .u8 (X : Nat)))) := Lib.hid ((below_then HB4.out HB4.out.size HB5.out).setCell (p := ⟨g, p, none⟩) (by show w.heap.size ≤ g; omega) _)
    have hbz : Byte (xs.set p ((X : Nat) : Int)) := fun x hx => by
      rcases List.mem_or_eq_of_mem_set hx with h | h
      · exact HBY.out x h
      · rw [h]; omega
    have CP := Lib.hid (parse_gen (some ⟨g, 0, none⟩) n' cap (xs.set p ((X : Nat) : Int)) (w5.setCell ⟨g, p, none⟩ (.int .u8 (X : Nat))) hr6 hbz hcg (by omega))
    have HNEQ : Hid (bt ≠ 0 → ¬ IsPage (xs.set p ((X : Nat) : Int)) (nn ps)) := Lib.hid (fun hb0 hip => by
      have e1 : xs.set p ((X : Nat) : Int) = xs := by rw [← hip.2, HPG.out]
      have e2 : (xs.set p ((X : Nat) : Int)).getD p 0 = ((X : Nat) : Int) := by rw [List.getD_eq_getElem?_getD, List.getElem?_set_self (by rw [hxl]; exact hlt)]; rfl
      rw [e1, HA.out] at e2
      have := xor_ne a bt hb0
      have := HX.out
      omega)
    clear hg6 hr6 hbz hX ha HO5 HB5 HR1 HO HB HGR5 HGR4 HRD4 HLg HB4
    have ha0 : ((a : Nat) : Int) = ((a : Nat) : Int) := rfl
    go_wp2_with fail
    refine CP.out.mono ?_
    rintro e w7 ⟨hb7, bv, wv, ex, qs, rfl, hgd, hbv, hwv, hcase⟩
    obtain ⟨Ab, nbb, cb, rfl, _⟩ := gr_open hbv
    obtain ⟨Aw, nw, cw, rfl, _⟩ := gr_open hwv
    have HGD := Lib.hid hgd
    have HBV := Lib.hid hbv
    have HWV := Lib.hid hwv
    have HCA := Lib.hid hcase
    have HGR7 := Lib.hid (gr_below HGR6.out hb7)
    have HB7 := Lib.hid (below_then HB6.out HB6.out.size hb7)
    generalize (w5.setCell ⟨g, p, none⟩ (.int .u8 (X : Nat))).heap.size = z6 at HBV HWV
    clear hb7 hgd hbv hwv hcase HGR6 HB6 CP hcl hfr hxor
    go_upto_region 12 with (first | (refine wpList_store_box rfl 36 (.tmp 10) (.tmp 43) rfl w7.heap.size [.slice Ab nbb cb, .slice Aw nw cw] rfl rfl (heap_alloc_new w7 _) rfl info36 rfl ?_; intro w8 hs8; have HS8 := Lib.hid hs8; clear hs8) | fail)
    have hb8 : Below w7.heap.size w7 w8 := HS8.out.then_ (below_alloc (Below.refl _ _) _) (Nat.le_refl _)
    have HX8 := Lib.hid HS8.out.at_
    have HBV8 := Lib.hid (gr_below HBV.out hb8)
    have HWV8 := Lib.hid (gr_below HWV.out hb8)
    have HGR8 := Lib.hid (gr_below HGR7.out hb8)
    have HB8 := Lib.hid (below_then HB7.out HB7.out.size hb8)
    clear hb8 HS8 HBV HWV HGR7 HB7
    generalize w7.heap.size = b8 at HX8 ⊢
    rcases HCA.out with ⟨rfl, hip⟩ | ⟨rfl, _, _⟩
    · by_cases hb0 : bt = 0
      · have hz : (((bt : Nat) : Int) != 0) = false := by rw [hb0]; rfl
        have HZ := Lib.hid hz
        clear hz hip
        refine plain_ (fun wq => Below w8.heap.size w8 wq) (fun _ => True) reg_5_12 rfl inv0 (fun _ _ _ _ => trivial) (Below.refl _ _) trivial ?_
        refine w_move (.inl rfl) (fun vs w hK => ⟨wants_none rfl, rho_out rfl rfl⟩) ?_
        refine w_val [(45, _)] (_) (fun vs w hK => ⟨wants_none rfl, rho_in rfl (fv (hK 0 (memE rfl))), trivial⟩) rfl (fun wq hI => by exact run_int_eql (r := true) rfl rfl rfl rfl) ?_
        refine w_move (.inl rfl) (fun vs w hK => ⟨wants_none rfl, rho_in rfl (fv (hK 1 (memE rfl)))⟩) ?_
        refine w_move (.inl rfl) (fun vs w hK => ⟨wants_g rfl (fv (hK 2 (memE rfl))), rho_out rfl rfl⟩) ?_
        refine w_val [(48, _)] (_) (fun vs w hK => ⟨wants_g rfl (fv (hK 2 (memE rfl))), rho_in rfl (fv (hK 3 (memE rfl))), trivial⟩) rfl (fun wq hI => by exact run_int_neq (r := false) rfl rfl rfl HZ.out) ?_
        refine w_pick (b := true) rfl (fun vs w hK => ⟨wants_none rfl, (rho_in rfl (fv (hK 2 (memE rfl)))), (rho_in rfl (fv (hK 4 (memE rfl))))⟩) ?_
        refine w_move (.inl rfl) (fun vs w hK => ⟨wants_none rfl, rho_in rfl (fv (hK 5 (memE rfl)))⟩) ?_
        refine w_not (fun vs wq hK => wants_not rfl (fv (hK 6 (memE rfl)))) ?_
        refine w_not (fun vs wq hK => wants_not rfl (fv (hK 6 (memE rfl)))) ?_
        refine w_not (fun vs wq hK => wants_not rfl (fv (hK 6 (memE rfl)))) ?_
        refine w_not (fun vs wq hK => wants_not rfl (fv (hK 6 (memE rfl)))) ?_
        refine w_pick (b := false) rfl (fun vs w hK => ⟨wants_none rfl, (rho_in rfl (fv (hK 6 (memE rfl)))), rho_const⟩) ?_
        refine w_end rfl rfl rfl (fun vs wq hI hF => ?_)
        simp only [List.reverse_cons, List.reverse_nil, List.nil_append, List.cons_append, finL_val, finL_of, finL_any, finL_app, finL_new, finL_gr, finL_row, finL_box, finL_nil, Act.put, List.setIfInBounds_toArray, List.set_cons_zero, List.set_cons_succ, Nat.reduceAdd]
        have HB9 := Lib.hid (below_then HB8.out HB8.out.size hI)
        have HGR9 := Lib.hid (gr_below HGR8.out hI)
        clear hI hF HB8 HGR8 HBV8 HWV8 HX8
        obtain ⟨w9, rfl⟩ : ∃ w9 : World, w9 = wq := ⟨_, rfl⟩
        obtain ⟨A9, n9, c9, e9, _, _, _, hr9⟩ := gr_open HGR9.out
        injection e9 with e91 e92 e93
        subst e91 e92 e93
        obtain ⟨hcut, hC⟩ := cut_to (enc := Value.int .u8) (h1 := int_one .u8) 0 tb A3 n' c3 p (by omega) h3c (p : Int) rfl
        have CQ := Lib.hid (parse_gen A3 p c3 (xs.take p) w9 (hC w9 xs hr9) (HBY.out.take p) (by omega) (by omega))
        clear hr9 hC
        go_wp2_with fail
        refine CQ.out.mono ?_
        rintro e w10 ⟨hb10, bv, wv, ex2, rs, rfl, hgd, hbv, hwv, hcase⟩
        obtain ⟨Ab2, nb2, cb2, rfl, _⟩ := gr_open hbv
        obtain ⟨Aw2, nw2, cw2, rfl, _⟩ := gr_open hwv
        have HGD2 := Lib.hid hgd
        have HBV2 := Lib.hid hbv
        have HWV2 := Lib.hid hwv
        have HCA2 := Lib.hid hcase
        have HB10 := Lib.hid (below_then HB9.out HB9.out.size hb10)
        clear hb10 hgd hbv hwv hcase HGR9 HB9 CQ
        go_upto_region 15 with (first | (refine wpList_store_box rfl 36 (.tmp 12) (.tmp 62) rfl w10.heap.size [.slice Ab2 nb2 cb2, .slice Aw2 nw2 cw2] rfl rfl (heap_alloc_new w10 _) rfl info36 rfl ?_; intro w11 hs11; have HS11 := Lib.hid hs11; clear hs11) | fail)
        have hb11 : Below w10.heap.size w10 w11 := HS11.out.then_ (below_alloc (Below.refl _ _) _) (Nat.le_refl _)
        have HX11 := Lib.hid HS11.out.at_
        have HBV11 := Lib.hid (gr_below HBV2.out hb11)
        have HWV11 := Lib.hid (gr_below HWV2.out hb11)
        have HB11 := Lib.hid (below_then HB10.out HB10.out.size hb11)
        clear hb11 HS11 HBV2 HWV2 HB10
        generalize w10.heap.size = b11 at HX11 ⊢
        rcases HCA2.out with ⟨rfl, hip2⟩ | ⟨rfl, _, _⟩
        · have HD2 : Hid (decide (rs = ps) = false) := Lib.hid (decide_eq_false (fun h => by
            have h1 := congrArg List.length hip2.2
            rw [h, HPG.out, List.length_take, hxl] at h1
            omega))
          clear hip2
          refine plain_ (fun wq => Below w11.heap.size w11 wq) (fun _ => True) reg_5_15 rfl inv0 (fun _ _ _ _ => trivial) (Below.refl _ _) trivial ?_
          refine w_move (.inl rfl) (fun vs w hK => ⟨wants_none rfl, rho_out rfl rfl⟩) ?_
          refine w_val [(64, _)] (_) (fun vs w hK => ⟨wants_none rfl, rho_in rfl (fv (hK 0 (memE rfl))), trivial⟩) rfl (fun wq hI => by exact run_int_neq (r := false) rfl rfl rfl rfl) ?_
          refine w_move (.inl rfl) (fun vs w hK => ⟨wants_none rfl, rho_in rfl (fv (hK 1 (memE rfl)))⟩) ?_
          refine w_val [(12, _)] (.agg [Value.slice Ab2 nb2 cb2, .slice Aw2 nw2 cw2].toArray) (fun vs w hK => ⟨wants_g rfl (fv (hK 2 (memE rfl))), rho_out rfl rfl, trivial⟩) rfl (fun wq hI => by exact op_load_at rfl ⟨b11, 0, none⟩ [.slice Ab2 nb2 cb2, .slice Aw2 nw2 cw2] rfl (box_cells (box_stays HX11.out hI)) Try.underlying36 rfl info36) ?_
          refine w_callF (FW.of (isSts rs) (fun _ _ _ h hb => isSts_below h hb)) [(67, _)] _ (by decide) (fun vs w hK => ⟨wants_g rfl (fv (hK 2 (memE rfl))), rho_in rfl (fv (hK 3 (memE rfl))), trivial⟩) rfl rfl Try.func21 (by kernel_rfl) rfl (fun wq hI => (all_page _ _ rs wq w9.heap.size HGD2.out (gr_below HBV11.out hI) (gr_below HWV11.out hI)).mono fun e w' ⟨v, he, ho, hb⟩ => ⟨v, he, hb, isSts_own ho⟩) (margs rfl) ?_
          refine w_move (.inl rfl) (fun vs w hK => ⟨wants_g rfl (fv (hK 2 (memE rfl))), rho_out rfl rfl⟩) ?_
          refine w_any (.val (.bool false)) (by decide) (fun vs wq hI hK => ?_) ?_
          · obtain ⟨Aq, nq, cq, e1, hsq⟩ : ∃ A n c, vs 4 = .slice A n c ∧ Sts encP 2 wq A n rs := hK 4 (memE rfl)
            refine ob_call [(68, .slice Aq nq cq), (69, .slice A n c)] _ (wants_g rfl (fv (hK 2 (memE rfl)))) ⟨rho_in rfl e1, rho_in rfl (fv (hK 5 (memE rfl))), trivial⟩ rfl rfl Try.func20 (by kernel_rfl) rfl (margs rfl) ((same_any Aq nq cq A n c rs ps wq hsq (sts_below HST.out (below_then HB11.out HB11.out.size hI))).mono ?_)
            rintro e w' ⟨rfl, hb⟩
            exact ⟨_, rfl, hb, congrArg Value.bool HD2.out⟩
          refine w_val [(70, _)] _ (fun vs w hK => ⟨wants_g rfl (fv (hK 2 (memE rfl))), rho_in rfl (fv (hK 6 (memE rfl))), trivial⟩) rfl (fun wq hI => by simp only [execOp, Option.map_some, Option.map_none, lk_tmp, lk_const, lkT_cons, ↓reduceIte, Nat.reduceEqDiff]; go_simp; (first | done | rfl)) ?_
          refine w_pick (b := false) rfl (fun vs w hK => ⟨wants_none rfl, (rho_in rfl (fv (hK 2 (memE rfl)))), (rho_in rfl (fv (hK 7 (memE rfl))))⟩) ?_
          refine w_move (.inr rfl) (fun vs w hK => ⟨wants_none rfl, rho_in rfl (fv (hK 8 (memE rfl)))⟩) ?_
          refine w_end rfl rfl rfl (fun vs wq hI hF => ?_)
          simp only [List.reverse_cons, List.reverse_nil, List.nil_append, List.cons_append, finL_val, finL_of, finL_any, finL_app, finL_new, finL_gr, finL_row, finL_box, finL_nil, Act.put, List.setIfInBounds_toArray, List.set_cons_zero, List.set_cons_succ, Nat.reduceAdd]
          have HB12 := Lib.hid (below_then HB11.out HB11.out.size hI)
          clear hI hF
          go_wp2_with fail
          go_ret
          exact ⟨rfl, HB12.out⟩
        · refine plain_ (fun wq => Below w11.heap.size w11 wq) (fun _ => True) reg_5_15 rfl inv0 (fun _ _ _ _ => trivial) (Below.refl _ _) trivial ?_
          refine w_move (.inl rfl) (fun vs w hK => ⟨wants_none rfl, rho_out rfl rfl⟩) ?_
          refine w_val [(64, _)] (_) (fun vs w hK => ⟨wants_none rfl, rho_in rfl (fv (hK 0 (memE rfl))), trivial⟩) rfl (fun wq hI => by exact run_int_neq (r := true) rfl rfl rfl rfl) ?_
          refine w_move (.inl rfl) (fun vs w hK => ⟨wants_none rfl, rho_in rfl (fv (hK 1 (memE rfl)))⟩) ?_
          refine w_not (fun vs wq hK => wants_not rfl (fv (hK 2 (memE rfl)))) ?_
          refine w_not (fun vs wq hK => wants_not rfl (fv (hK 2 (memE rfl)))) ?_
          refine w_not (fun vs wq hK => wants_not rfl (fv (hK 2 (memE rfl)))) ?_
          refine w_not (fun vs wq hK => wants_not rfl (fv (hK 2 (memE rfl)))) ?_
          refine w_not (fun vs wq hK => wants_not rfl (fv (hK 2 (memE rfl)))) ?_
          refine w_pick (b := true) rfl (fun vs w hK => ⟨wants_none rfl, (rho_in rfl (fv (hK 2 (memE rfl)))), rho_const⟩) ?_
          refine w_move (.inr rfl) (fun vs w hK => ⟨wants_none rfl, rho_in rfl (fv (hK 8 (memE rfl)))⟩) ?_
          refine w_end rfl rfl rfl (fun vs wq hI hF => ?_)
          simp only [List.reverse_cons, List.reverse_nil, List.nil_append, List.cons_append, finL_val, finL_of, finL_any, finL_app, finL_new, finL_gr, finL_row, finL_box, finL_nil, Act.put, List.setIfInBounds_toArray, List.set_cons_zero, List.set_cons_succ, Nat.reduceAdd]
          have HB12 := Lib.hid (below_then HB11.out HB11.out.size hI)
          clear hI hF
          go_wp2_with fail
          go_ret
          exact ⟨rfl, HB12.out⟩
      · have hz : (((bt : Nat) : Int) != 0) = true := by simp only [bne_iff_ne]; omega
        have HZ := Lib.hid hz
        have HD : Hid (decide (qs = ps) = false) := Lib.hid (decide_eq_false (fun h => HNEQ.out hb0 (by rw [← h]; exact hip)))
        clear hz hip
        refine plain_ (fun wq => Below w8.heap.size w8 wq) (fun _ => True) reg_5_12 rfl inv0 (fun _ _ _ _ => trivial) (Below.refl _ _) trivial ?_
        refine w_move (.inl rfl) (fun vs w hK => ⟨wants_none rfl, rho_out rfl rfl⟩) ?_
        refine w_val [(45, _)] (_) (fun vs w hK => ⟨wants_none rfl, rho_in rfl (fv (hK 0 (memE rfl))), trivial⟩) rfl (fun wq hI => by exact run_int_eql (r := true) rfl rfl rfl rfl) ?_
        refine w_move (.inl rfl) (fun vs w hK => ⟨wants_none rfl, rho_in rfl (fv (hK 1 (memE rfl)))⟩) ?_
        refine w_move (.inl rfl) (fun vs w hK => ⟨wants_g rfl (fv (hK 2 (memE rfl))), rho_out rfl rfl⟩) ?_
        refine w_val [(48, _)] (_) (fun vs w hK => ⟨wants_g rfl (fv (hK 2 (memE rfl))), rho_in rfl (fv (hK 3 (memE rfl))), trivial⟩) rfl (fun wq hI => by exact run_int_neq (r := true) rfl rfl rfl HZ.out) ?_
        refine w_pick (b := true) rfl (fun vs w hK => ⟨wants_none rfl, (rho_in rfl (fv (hK 2 (memE rfl)))), (rho_in rfl (fv (hK 4 (memE rfl))))⟩) ?_
        refine w_move (.inl rfl) (fun vs w hK => ⟨wants_none rfl, rho_in rfl (fv (hK 5 (memE rfl)))⟩) ?_
        refine w_val [(10, _)] (.agg [Value.slice Ab nbb cb, .slice Aw nw cw].toArray) (fun vs w hK => ⟨wants_g rfl (fv (hK 6 (memE rfl))), rho_out rfl rfl, trivial⟩) rfl (fun wq hI => by exact op_load_at rfl ⟨b8, 0, none⟩ [.slice Ab nbb cb, .slice Aw nw cw] rfl (box_cells (box_stays HX8.out hI)) Try.underlying36 rfl info36) ?_
        refine w_callF (FW.of (isSts qs) (fun _ _ _ h hb => isSts_below h hb)) [(52, _)] _ (by decide) (fun vs w hK => ⟨wants_g rfl (fv (hK 6 (memE rfl))), rho_in rfl (fv (hK 7 (memE rfl))), trivial⟩) rfl rfl Try.func21 (by kernel_rfl) rfl (fun wq hI => (all_page _ _ qs wq z6 HGD.out (gr_below HBV8.out hI) (gr_below HWV8.out hI)).mono fun e w' ⟨v, he, ho, hb⟩ => ⟨v, he, hb, isSts_own ho⟩) (margs rfl) ?_
        refine w_move (.inl rfl) (fun vs w hK => ⟨wants_g rfl (fv (hK 6 (memE rfl))), rho_out rfl rfl⟩) ?_
        refine w_any (.val (.bool false)) (by decide) (fun vs wq hI hK => ?_) ?_
        · obtain ⟨Aq, nq, cq, e1, hsq⟩ : ∃ A n c, vs 8 = .slice A n c ∧ Sts encP 2 wq A n qs := hK 8 (memE rfl)
          refine ob_call [(53, .slice Aq nq cq), (54, .slice A n c)] _ (wants_g rfl (fv (hK 6 (memE rfl)))) ⟨rho_in rfl e1, rho_in rfl (fv (hK 9 (memE rfl))), trivial⟩ rfl rfl Try.func20 (by kernel_rfl) rfl (margs rfl) ((same_any Aq nq cq A n c qs ps wq hsq (sts_below HST.out (below_then HB8.out HB8.out.size hI))).mono ?_)
          rintro e w' ⟨rfl, hb⟩
          exact ⟨_, rfl, hb, congrArg Value.bool HD.out⟩
        refine w_pick (b := true) rfl (fun vs w hK => ⟨wants_none rfl, (rho_in rfl (fv (hK 6 (memE rfl)))), (rho_in rfl (fv (hK 10 (memE rfl))))⟩) ?_
        refine w_end rfl rfl rfl (fun vs wq hI hF => ?_)
        simp only [List.reverse_cons, List.reverse_nil, List.nil_append, List.cons_append, finL_val, finL_of, finL_any, finL_app, finL_new, finL_gr, finL_row, finL_box, finL_nil, Act.put, List.setIfInBounds_toArray, List.set_cons_zero, List.set_cons_succ, Nat.reduceAdd]
        have HB9 := Lib.hid (below_then HB8.out HB8.out.size hI)
        have HGR9 := Lib.hid (gr_below HGR8.out hI)
        clear hI hF HB8 HGR8 HBV8 HWV8 HX8
        obtain ⟨w9, rfl⟩ : ∃ w9 : World, w9 = wq := ⟨_, rfl⟩
        obtain ⟨A9, n9, c9, e9, _, _, _, hr9⟩ := gr_open HGR9.out
        injection e9 with e91 e92 e93
        subst e91 e92 e93
        obtain ⟨hcut, hC⟩ := cut_to (enc := Value.int .u8) (h1 := int_one .u8) 0 tb A3 n' c3 p (by omega) h3c (p : Int) rfl
        have CQ := Lib.hid (parse_gen A3 p c3 (xs.take p) w9 (hC w9 xs hr9) (HBY.out.take p) (by omega) (by omega))
        clear hr9 hC
        go_wp2_with fail
        refine CQ.out.mono ?_
        rintro e w10 ⟨hb10, bv, wv, ex2, rs, rfl, hgd, hbv, hwv, hcase⟩
        obtain ⟨Ab2, nb2, cb2, rfl, _⟩ := gr_open hbv
        obtain ⟨Aw2, nw2, cw2, rfl, _⟩ := gr_open hwv
        have HGD2 := Lib.hid hgd
        have HBV2 := Lib.hid hbv
        have HWV2 := Lib.hid hwv
        have HCA2 := Lib.hid hcase
        have HB10 := Lib.hid (below_then HB9.out HB9.out.size hb10)
        clear hb10 hgd hbv hwv hcase HGR9 HB9 CQ
        go_upto_region 15 with (first | (refine wpList_store_box rfl 36 (.tmp 12) (.tmp 62) rfl w10.heap.size [.slice Ab2 nb2 cb2, .slice Aw2 nw2 cw2] rfl rfl (heap_alloc_new w10 _) rfl info36 rfl ?_; intro w11 hs11; have HS11 := Lib.hid hs11; clear hs11) | fail)
        have hb11 : Below w10.heap.size w10 w11 := HS11.out.then_ (below_alloc (Below.refl _ _) _) (Nat.le_refl _)
        have HX11 := Lib.hid HS11.out.at_
        have HBV11 := Lib.hid (gr_below HBV2.out hb11)
        have HWV11 := Lib.hid (gr_below HWV2.out hb11)
        have HB11 := Lib.hid (below_then HB10.out HB10.out.size hb11)
        clear hb11 HS11 HBV2 HWV2 HB10
        generalize w10.heap.size = b11 at HX11 ⊢
        rcases HCA2.out with ⟨rfl, hip2⟩ | ⟨rfl, _, _⟩
        · have HD2 : Hid (decide (rs = ps) = false) := Lib.hid (decide_eq_false (fun h => by
            have h1 := congrArg List.length hip2.2
            rw [h, HPG.out, List.length_take, hxl] at h1
            omega))
          clear hip2
          refine plain_ (fun wq => Below w11.heap.size w11 wq) (fun _ => True) reg_5_15 rfl inv0 (fun _ _ _ _ => trivial) (Below.refl _ _) trivial ?_
          refine w_move (.inl rfl) (fun vs w hK => ⟨wants_none rfl, rho_out rfl rfl⟩) ?_
          refine w_val [(64, _)] (_) (fun vs w hK => ⟨wants_none rfl, rho_in rfl (fv (hK 0 (memE rfl))), trivial⟩) rfl (fun wq hI => by exact run_int_neq (r := false) rfl rfl rfl rfl) ?_
          refine w_move (.inl rfl) (fun vs w hK => ⟨wants_none rfl, rho_in rfl (fv (hK 1 (memE rfl)))⟩) ?_
          refine w_val [(12, _)] (.agg [Value.slice Ab2 nb2 cb2, .slice Aw2 nw2 cw2].toArray) (fun vs w hK => ⟨wants_g rfl (fv (hK 2 (memE rfl))), rho_out rfl rfl, trivial⟩) rfl (fun wq hI => by exact op_load_at rfl ⟨b11, 0, none⟩ [.slice Ab2 nb2 cb2, .slice Aw2 nw2 cw2] rfl (box_cells (box_stays HX11.out hI)) Try.underlying36 rfl info36) ?_
          refine w_callF (FW.of (isSts rs) (fun _ _ _ h hb => isSts_below h hb)) [(67, _)] _ (by decide) (fun vs w hK => ⟨wants_g rfl (fv (hK 2 (memE rfl))), rho_in rfl (fv (hK 3 (memE rfl))), trivial⟩) rfl rfl Try.func21 (by kernel_rfl) rfl (fun wq hI => (all_page _ _ rs wq w9.heap.size HGD2.out (gr_below HBV11.out hI) (gr_below HWV11.out hI)).mono fun e w' ⟨v, he, ho, hb⟩ => ⟨v, he, hb, isSts_own ho⟩) (margs rfl) ?_
          refine w_move (.inl rfl) (fun vs w hK => ⟨wants_g rfl (fv (hK 2 (memE rfl))), rho_out rfl rfl⟩) ?_
          refine w_any (.val (.bool false)) (by decide) (fun vs wq hI hK => ?_) ?_
          · obtain ⟨Aq, nq, cq, e1, hsq⟩ : ∃ A n c, vs 4 = .slice A n c ∧ Sts encP 2 wq A n rs := hK 4 (memE rfl)
            refine ob_call [(68, .slice Aq nq cq), (69, .slice A n c)] _ (wants_g rfl (fv (hK 2 (memE rfl)))) ⟨rho_in rfl e1, rho_in rfl (fv (hK 5 (memE rfl))), trivial⟩ rfl rfl Try.func20 (by kernel_rfl) rfl (margs rfl) ((same_any Aq nq cq A n c rs ps wq hsq (sts_below HST.out (below_then HB11.out HB11.out.size hI))).mono ?_)
            rintro e w' ⟨rfl, hb⟩
            exact ⟨_, rfl, hb, congrArg Value.bool HD2.out⟩
          refine w_val [(70, _)] _ (fun vs w hK => ⟨wants_g rfl (fv (hK 2 (memE rfl))), rho_in rfl (fv (hK 6 (memE rfl))), trivial⟩) rfl (fun wq hI => by simp only [execOp, Option.map_some, Option.map_none, lk_tmp, lk_const, lkT_cons, ↓reduceIte, Nat.reduceEqDiff]; go_simp; (first | done | rfl)) ?_
          refine w_pick (b := false) rfl (fun vs w hK => ⟨wants_none rfl, (rho_in rfl (fv (hK 2 (memE rfl)))), (rho_in rfl (fv (hK 7 (memE rfl))))⟩) ?_
          refine w_move (.inr rfl) (fun vs w hK => ⟨wants_none rfl, rho_in rfl (fv (hK 8 (memE rfl)))⟩) ?_
          refine w_end rfl rfl rfl (fun vs wq hI hF => ?_)
          simp only [List.reverse_cons, List.reverse_nil, List.nil_append, List.cons_append, finL_val, finL_of, finL_any, finL_app, finL_new, finL_gr, finL_row, finL_box, finL_nil, Act.put, List.setIfInBounds_toArray, List.set_cons_zero, List.set_cons_succ, Nat.reduceAdd]
          have HB12 := Lib.hid (below_then HB11.out HB11.out.size hI)
          clear hI hF
          go_wp2_with fail
          go_ret
          exact ⟨rfl, HB12.out⟩
        · refine plain_ (fun wq => Below w11.heap.size w11 wq) (fun _ => True) reg_5_15 rfl inv0 (fun _ _ _ _ => trivial) (Below.refl _ _) trivial ?_
          refine w_move (.inl rfl) (fun vs w hK => ⟨wants_none rfl, rho_out rfl rfl⟩) ?_
          refine w_val [(64, _)] (_) (fun vs w hK => ⟨wants_none rfl, rho_in rfl (fv (hK 0 (memE rfl))), trivial⟩) rfl (fun wq hI => by exact run_int_neq (r := true) rfl rfl rfl rfl) ?_
          refine w_move (.inl rfl) (fun vs w hK => ⟨wants_none rfl, rho_in rfl (fv (hK 1 (memE rfl)))⟩) ?_
          refine w_not (fun vs wq hK => wants_not rfl (fv (hK 2 (memE rfl)))) ?_
          refine w_not (fun vs wq hK => wants_not rfl (fv (hK 2 (memE rfl)))) ?_
          refine w_not (fun vs wq hK => wants_not rfl (fv (hK 2 (memE rfl)))) ?_
          refine w_not (fun vs wq hK => wants_not rfl (fv (hK 2 (memE rfl)))) ?_
          refine w_not (fun vs wq hK => wants_not rfl (fv (hK 2 (memE rfl)))) ?_
          refine w_pick (b := true) rfl (fun vs w hK => ⟨wants_none rfl, (rho_in rfl (fv (hK 2 (memE rfl)))), rho_const⟩) ?_
          refine w_move (.inr rfl) (fun vs w hK => ⟨wants_none rfl, rho_in rfl (fv (hK 8 (memE rfl)))⟩) ?_
          refine w_end rfl rfl rfl (fun vs wq hI hF => ?_)
          simp only [List.reverse_cons, List.reverse_nil, List.nil_append, List.cons_append, finL_val, finL_of, finL_any, finL_app, finL_new, finL_gr, finL_row, finL_box, finL_nil, Act.put, List.setIfInBounds_toArray, List.set_cons_zero, List.set_cons_succ, Nat.reduceAdd]
          have HB12 := Lib.hid (below_then HB11.out HB11.out.size hI)
          clear hI hF
          go_wp2_with fail
          go_ret
          exact ⟨rfl, HB12.out⟩
    · refine plain_ (fun wq => Below w8.heap.size w8 wq) (fun _ => True) reg_5_12 rfl inv0 (fun _ _ _ _ => trivial) (Below.refl _ _) trivial ?_
      refine w_move (.inl rfl) (fun vs w hK => ⟨wants_none rfl, rho_out rfl rfl⟩) ?_
      refine w_val [(45, _)] (_) (fun vs w hK => ⟨wants_none rfl, rho_in rfl (fv (hK 0 (memE rfl))), trivial⟩) rfl (fun wq hI => by exact run_int_eql (r := false) rfl rfl rfl rfl) ?_
      refine w_move (.inl rfl) (fun vs w hK => ⟨wants_none rfl, rho_in rfl (fv (hK 1 (memE rfl)))⟩) ?_
      refine w_not (fun vs wq hK => wants_not rfl (fv (hK 2 (memE rfl)))) ?_
      refine w_not (fun vs wq hK => wants_not rfl (fv (hK 2 (memE rfl)))) ?_
      refine w_pick (b := false) rfl (fun vs w hK => ⟨wants_none rfl, (rho_in rfl (fv (hK 2 (memE rfl)))), rho_const⟩) ?_
      refine w_move (.inl rfl) (fun vs w hK => ⟨wants_none rfl, rho_in rfl (fv (hK 5 (memE rfl)))⟩) ?_
      refine w_not (fun vs wq hK => wants_not rfl (fv (hK 6 (memE rfl)))) ?_
      refine w_not (fun vs wq hK => wants_not rfl (fv (hK 6 (memE rfl)))) ?_
      refine w_not (fun vs wq hK => wants_not rfl (fv (hK 6 (memE rfl)))) ?_
      refine w_not (fun vs wq hK => wants_not rfl (fv (hK 6 (memE rfl)))) ?_
      refine w_pick (b := false) rfl (fun vs w hK => ⟨wants_none rfl, (rho_in rfl (fv (hK 6 (memE rfl)))), rho_const⟩) ?_
      refine w_end rfl rfl rfl (fun vs wq hI hF => ?_)
      simp only [List.reverse_cons, List.reverse_nil, List.nil_append, List.cons_append, finL_val, finL_of, finL_any, finL_app, finL_new, finL_gr, finL_row, finL_box, finL_nil, Act.put, List.setIfInBounds_toArray, List.set_cons_zero, List.set_cons_succ, Nat.reduceAdd]
      have HB9 := Lib.hid (below_then HB8.out HB8.out.size hI)
      have HGR9 := Lib.hid (gr_below HGR8.out hI)
      clear hI hF HB8 HGR8 HBV8 HWV8 HX8
      obtain ⟨w9, rfl⟩ : ∃ w9 : World, w9 = wq := ⟨_, rfl⟩
      obtain ⟨A9, n9, c9, e9, _, _, _, hr9⟩ := gr_open HGR9.out
      injection e9 with e91 e92 e93
      subst e91 e92 e93
      obtain ⟨hcut, hC⟩ := cut_to (enc := Value.int .u8) (h1 := int_one .u8) 0 tb A3 n' c3 p (by omega) h3c (p : Int) rfl
      have CQ := Lib.hid (parse_gen A3 p c3 (xs.take p) w9 (hC w9 xs hr9) (HBY.out.take p) (by omega) (by omega))
      clear hr9 hC
      go_wp2_with fail
      refine CQ.out.mono ?_
      rintro e w10 ⟨hb10, bv, wv, ex2, rs, rfl, hgd, hbv, hwv, hcase⟩
      obtain ⟨Ab2, nb2, cb2, rfl, _⟩ := gr_open hbv
      obtain ⟨Aw2, nw2, cw2, rfl, _⟩ := gr_open hwv
      have HGD2 := Lib.hid hgd
      have HBV2 := Lib.hid hbv
      have HWV2 := Lib.hid hwv
      have HCA2 := Lib.hid hcase
      have HB10 := Lib.hid (below_then HB9.out HB9.out.size hb10)
      clear hb10 hgd hbv hwv hcase HGR9 HB9 CQ
      go_upto_region 15 with (first | (refine wpList_store_box rfl 36 (.tmp 12) (.tmp 62) rfl w10.heap.size [.slice Ab2 nb2 cb2, .slice Aw2 nw2 cw2] rfl rfl (heap_alloc_new w10 _) rfl info36 rfl ?_; intro w11 hs11; have HS11 := Lib.hid hs11; clear hs11) | fail)
      have hb11 : Below w10.heap.size w10 w11 := HS11.out.then_ (below_alloc (Below.refl _ _) _) (Nat.le_refl _)
      have HX11 := Lib.hid HS11.out.at_
      have HBV11 := Lib.hid (gr_below HBV2.out hb11)
      have HWV11 := Lib.hid (gr_below HWV2.out hb11)
      have HB11 := Lib.hid (below_then HB10.out HB10.out.size hb11)
      clear hb11 HS11 HBV2 HWV2 HB10
      generalize w10.heap.size = b11 at HX11 ⊢
      rcases HCA2.out with ⟨rfl, hip2⟩ | ⟨rfl, _, _⟩
      · have HD2 : Hid (decide (rs = ps) = false) := Lib.hid (decide_eq_false (fun h => by
          have h1 := congrArg List.length hip2.2
          rw [h, HPG.out, List.length_take, hxl] at h1
          omega))
        clear hip2
        refine plain_ (fun wq => Below w11.heap.size w11 wq) (fun _ => True) reg_5_15 rfl inv0 (fun _ _ _ _ => trivial) (Below.refl _ _) trivial ?_
        refine w_move (.inl rfl) (fun vs w hK => ⟨wants_none rfl, rho_out rfl rfl⟩) ?_
        refine w_val [(64, _)] (_) (fun vs w hK => ⟨wants_none rfl, rho_in rfl (fv (hK 0 (memE rfl))), trivial⟩) rfl (fun wq hI => by exact run_int_neq (r := false) rfl rfl rfl rfl) ?_
        refine w_move (.inl rfl) (fun vs w hK => ⟨wants_none rfl, rho_in rfl (fv (hK 1 (memE rfl)))⟩) ?_
        refine w_val [(12, _)] (.agg [Value.slice Ab2 nb2 cb2, .slice Aw2 nw2 cw2].toArray) (fun vs w hK => ⟨wants_g rfl (fv (hK 2 (memE rfl))), rho_out rfl rfl, trivial⟩) rfl (fun wq hI => by exact op_load_at rfl ⟨b11, 0, none⟩ [.slice Ab2 nb2 cb2, .slice Aw2 nw2 cw2] rfl (box_cells (box_stays HX11.out hI)) Try.underlying36 rfl info36) ?_
        refine w_callF (FW.of (isSts rs) (fun _ _ _ h hb => isSts_below h hb)) [(67, _)] _ (by decide) (fun vs w hK => ⟨wants_g rfl (fv (hK 2 (memE rfl))), rho_in rfl (fv (hK 3 (memE rfl))), trivial⟩) rfl rfl Try.func21 (by kernel_rfl) rfl (fun wq hI => (all_page _ _ rs wq w9.heap.size HGD2.out (gr_below HBV11.out hI) (gr_below HWV11.out hI)).mono fun e w' ⟨v, he, ho, hb⟩ => ⟨v, he, hb, isSts_own ho⟩) (margs rfl) ?_
        refine w_move (.inl rfl) (fun vs w hK => ⟨wants_g rfl (fv (hK 2 (memE rfl))), rho_out rfl rfl⟩) ?_
        refine w_any (.val (.bool false)) (by decide) (fun vs wq hI hK => ?_) ?_
        · obtain ⟨Aq, nq, cq, e1, hsq⟩ : ∃ A n c, vs 4 = .slice A n c ∧ Sts encP 2 wq A n rs := hK 4 (memE rfl)
          refine ob_call [(68, .slice Aq nq cq), (69, .slice A n c)] _ (wants_g rfl (fv (hK 2 (memE rfl)))) ⟨rho_in rfl e1, rho_in rfl (fv (hK 5 (memE rfl))), trivial⟩ rfl rfl Try.func20 (by kernel_rfl) rfl (margs rfl) ((same_any Aq nq cq A n c rs ps wq hsq (sts_below HST.out (below_then HB11.out HB11.out.size hI))).mono ?_)
          rintro e w' ⟨rfl, hb⟩
          exact ⟨_, rfl, hb, congrArg Value.bool HD2.out⟩
        refine w_val [(70, _)] _ (fun vs w hK => ⟨wants_g rfl (fv (hK 2 (memE rfl))), rho_in rfl (fv (hK 6 (memE rfl))), trivial⟩) rfl (fun wq hI => by simp only [execOp, Option.map_some, Option.map_none, lk_tmp, lk_const, lkT_cons, ↓reduceIte, Nat.reduceEqDiff]; go_simp; (first | done | rfl)) ?_
        refine w_pick (b := false) rfl (fun vs w hK => ⟨wants_none rfl, (rho_in rfl (fv (hK 2 (memE rfl)))), (rho_in rfl (fv (hK 7 (memE rfl))))⟩) ?_
        refine w_move (.inr rfl) (fun vs w hK => ⟨wants_none rfl, rho_in rfl (fv (hK 8 (memE rfl)))⟩) ?_
        refine w_end rfl rfl rfl (fun vs wq hI hF => ?_)
        simp only [List.reverse_cons, List.reverse_nil, List.nil_append, List.cons_append, finL_val, finL_of, finL_any, finL_app, finL_new, finL_gr, finL_row, finL_box, finL_nil, Act.put, List.setIfInBounds_toArray, List.set_cons_zero, List.set_cons_succ, Nat.reduceAdd]
        have HB12 := Lib.hid (below_then HB11.out HB11.out.size hI)
        clear hI hF
        go_wp2_with fail
        go_ret
        exact ⟨rfl, HB12.out⟩
      · refine plain_ (fun wq => Below w11.heap.size w11 wq) (fun _ => True) reg_5_15 rfl inv0 (fun _ _ _ _ => trivial) (Below.refl _ _) trivial ?_
        refine w_move (.inl rfl) (fun vs w hK => ⟨wants_none rfl, rho_out rfl rfl⟩) ?_
        refine w_val [(64, _)] (_) (fun vs w hK => ⟨wants_none rfl, rho_in rfl (fv (hK 0 (memE rfl))), trivial⟩) rfl (fun wq hI => by exact run_int_neq (r := true) rfl rfl rfl rfl) ?_
        refine w_move (.inl rfl) (fun vs w hK => ⟨wants_none rfl, rho_in rfl (fv (hK 1 (memE rfl)))⟩) ?_
        refine w_not (fun vs wq hK => wants_not rfl (fv (hK 2 (memE rfl)))) ?_
        refine w_not (fun vs wq hK => wants_not rfl (fv (hK 2 (memE rfl)))) ?_
        refine w_not (fun vs wq hK => wants_not rfl (fv (hK 2 (memE rfl)))) ?_
        refine w_not (fun vs wq hK => wants_not rfl (fv (hK 2 (memE rfl)))) ?_
        refine w_not (fun vs wq hK => wants_not rfl (fv (hK 2 (memE rfl)))) ?_
        refine w_pick (b := true) rfl (fun vs w hK => ⟨wants_none rfl, (rho_in rfl (fv (hK 2 (memE rfl)))), rho_const⟩) ?_
        refine w_move (.inr rfl) (fun vs w hK => ⟨wants_none rfl, rho_in rfl (fv (hK 8 (memE rfl)))⟩) ?_
        refine w_end rfl rfl rfl (fun vs wq hI hF => ?_)
        simp only [List.reverse_cons, List.reverse_nil, List.nil_append, List.cons_append, finL_val, finL_of, finL_any, finL_app, finL_new, finL_gr, finL_row, finL_box, finL_nil, Act.put, List.setIfInBounds_toArray, List.set_cons_zero, List.set_cons_succ, Nat.reduceAdd]
        have HB12 := Lib.hid (below_then HB11.out HB11.out.size hI)
        clear hI hF
        go_wp2_with fail
        go_ret
        exact ⟨rfl, HB12.out⟩
  · have hex : ex = 1 ∨ ex = 6 := by
      rcases hbad with ⟨h1, _, _⟩ | ⟨h1, _, _⟩
      · exact .inl h1
      · exact .inr h1
    have HEX : Hid ((((ex : Nat) : Int) != 0) = true) := Lib.hid (by rcases hex with rfl | rfl <;> rfl)
    have hex2 := HEX.out
    clear hbad hex
    go_wp2_with fail
    go_ret
    exact ⟨rfl, HB3.out⟩
end Go.Proofs.Ytnkeijdpjcclcaa.Pg

