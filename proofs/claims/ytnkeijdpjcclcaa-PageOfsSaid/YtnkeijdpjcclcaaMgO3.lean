/- Merged of: PageCuts PageMakes PgW PageWhole KeyA KeyD KeyB KeyF KeyH KeyI KeyJ KeyC KeyG KeyE PgO -/
import Derived.Test.YtnkeijdpjcclcaaMgO2
import Derived.Lib.Bytealg
import Derived.Lib.Strings
import Derived.Test.YtnkeijdpjcclcaaWEqStruct
import Derived.Lib.SmallJoins
-- PageCuts
/- The walk of the law PageCuts: a page that is cut short, or of which a byte is turned, is another one, or none. -/
namespace Go.Proofs.Ytnkeijdpjcclcaa.Pg
set_option linter.unusedVariables false
set_option linter.unusedSimpArgs false
open Go.Proofs.Ytnkeijdpjcclcaa.Kit Go.Proofs.Ytnkeijdpjcclcaa.Num Go.RowKit Go.Proofs.YtnkeijdpjcclcaaW.PrintWords Go.Proofs.YtnkeijdpjcclcaaW.PrintLast Go.Proofs.YtnkeijdpjcclcaaW.PrintMore NumPure
theorem reg_5_8 : RegOk (opsOf Try.f5 8) [[], [0], [], [2], [0, 1, 2, 3], [0, 1, 2, 3, 4]] [] [some 25, some 26, some 27, some 28, some 29, some 1] := regOk (by kernel_rfl)
theorem reg_5_12 : RegOk (opsOf Try.f5 12) [[], [0], [0, 1], [0, 1, 2], [0, 1, 2, 3], [0, 1, 2, 3, 4], [0, 1, 2, 3, 4, 5], [0, 1, 2, 3, 4, 5, 6], [0, 1, 2, 3, 4, 5, 6, 7], [0, 1, 2, 3, 4, 5, 6], [0, 1, 2, 3, 4, 5, 6, 7, 8, 9], [0, 1, 2, 3, 4, 5, 6, 7, 8, 9, 10]] [] [some 45, some 46, some 47, some 48, some 49, some 50, some 51, some 52, some 53, some 54, some 55, some 56] := regOk (by kernel_rfl)
theorem reg_5_15 : RegOk (opsOf Try.f5 15) [[], [0], [0, 1], [0, 1, 2], [0, 1, 2, 3], [0, 1, 2], [0, 1, 2, 3, 4, 5], [0, 1, 2, 3, 4, 5, 6], [0, 1, 2, 3, 4, 5, 6, 7], [0, 1, 2, 3, 4, 5, 6, 7, 8]] [] [some 64, some 65, some 66, some 67, some 68, some 69, some 70, some 71, some 72, some 6] := regOk (by kernel_rfl)
set_option maxRecDepth 20000 in
set_option maxHeartbeats 3200000 in
theorem cuts_any (A : Option Addr) (n c : Nat) (ps : List PB) (at_ bits : Int) (w : World) (hl : Sts encP 2 w A n ps) (hnc : n ≤ c) (hok : ∀ z ∈ ps, okP z) (wat : (Lit.int .i64 at_).wf = true) (wb : (Lit.int .u8 bits).wf = true) :
    Calls Try.prog 5 #[.slice A n c, .int .i64 at_, .int .u8 bits] w fun e w' => e = .returned (.bool true) ∧ Below w.heap.size w w' := by
  have hb8 := wf_u8 wb
  obtain ⟨bt, rfl⟩ : ∃ b : Nat, bits = b := ⟨bits.toNat, by omega⟩
  have hbt : bt < 256 := by omega
  have HST := Lib.hid hl
  have C0 := Lib.hid (head_any w)
  obtain ⟨q0, hq0, hq1⟩ := and16 at_
  have HQ := Lib.hid hq0
  clear hl hok hb8 wb wat hq0
  go_enter Try.func5, Try.ntmps5
  go_wp2_with fail
  refine C0.out.mono ?_
  rintro e w1 ⟨rfl, hb1⟩
  have HB1 := Lib.hid hb1
  have CB := Lib.hid (big_any A n c ps w1 (sts_below HST.out hb1))
  clear hb1 C0
  go_wp2_with fail
  refine CB.out.mono ?_
  rintro e w2 ⟨B, rfl, hb2, hsmall⟩
  have HB2 := Lib.hid (below_then HB1.out HB1.out.size hb2)
  have HSM := Lib.hid hsmall
  clear hb2 hsmall HB1 CB
  cases B with
  | true =>
    go_wp2_with fail
    go_ret
    exact ⟨rfl, HB2.out⟩
  | false =>
  obtain ⟨hn60, hsz⟩ := HSM.out rfl
  have CM := Lib.hid (make_any A n c ps w2 (sts_below HST.out HB2.out) (by omega) (fun p hp => by have := hsz p hp; omega))
  clear HSM hsz
  go_wp2_with fail
  refine CM.out.mono ?_
  rintro e w3 ⟨hb3, v3, ex, rfl, hp⟩
  have HB3 := Lib.hid (below_then HB2.out HB2.out.size hb3)
  clear hb3 HB2 CM
  rcases hp with ⟨rfl, hgood, hgr⟩ | hbad
  · obtain ⟨A3, nb, c3, rfl, h3c, HL3, _, hr3⟩ := gr_open hgr
    have hpl := page_length (nn ps)
    have hbf := body_fit hgood
    have hnl : (nn ps).length = n := by rw [nn_length]; exact HST.out.len
    have hcq : cntAt (nn ps).length ≤ 1000 := by rw [hnl]; unfold cntAt; omega
    have hbn : nb ≤ 300000 := by rw [← HL3.out, hpl]; omega
    have hb4 : 4 ≤ nb := by rw [← HL3.out, hpl]; omega
    have hby := page_byte (nn_byte ps)
    have HIP : Hid (IsPage (pageOf (nn ps)) (nn ps)) := Lib.hid ⟨hgood, rfl⟩
    generalize hpg : pageOf (nn ps) = xs at hgr hr3 HL3 hby HIP
    have HPG := Lib.hid hpg
    have HGR := Lib.hid hgr
    have HRD := Lib.hid hr3
    have HBY := Lib.hid hby
    have hlt : q0 % nb < nb := Nat.mod_lt _ (by omega)
    clear hgr hr3 hby hpg hpl hbf hnl hgood hcq
    go_upto_region 8 with fail
    refine plain_ (fun wq => Below w3.heap.size w3 wq) (fun _ => True) reg_5_8 rfl inv0 (fun _ _ _ _ => trivial) (Below.refl _ _) trivial ?_
    refine w_move (.inl rfl) (fun vs w hK => ⟨wants_none rfl, rho_out rfl rfl⟩) ?_
    refine w_val [(25, _)] (_) (fun vs w hK => ⟨wants_none rfl, rho_in rfl (fv (hK 0 (memE rfl))), trivial⟩) rfl (fun wq hI => by exact op_and rfl rfl rfl HQ.out) ?_
    refine w_move (.inl rfl) (fun vs w hK => ⟨wants_none rfl, rho_out rfl rfl⟩) ?_
    refine w_val [(27, _)] (_) (fun vs w hK => ⟨wants_none rfl, rho_in rfl (fv (hK 2 (memE rfl))), trivial⟩) rfl (fun wq hI => by exact run_len_sl rfl Try.underlying25 rfl rfl) ?_
    refine w_val [(26, _), (28, _)] (_) (fun vs w hK => ⟨wants_none rfl, rho_in rfl (fv (hK 1 (memE rfl))), rho_in rfl (fv (hK 3 (memE rfl))), trivial⟩) rfl (fun wq hI => by exact op_rem rfl rfl rfl (by omega) (rem_nat q0 nb)) ?_
    refine w_move (.inr rfl) (fun vs w hK => ⟨wants_none rfl, rho_in rfl (fv (hK 4 (memE rfl)))⟩) ?_
    refine w_end rfl rfl rfl (fun vs wq hI hF => ?_)
    simp only [List.reverse_cons, List.reverse_nil, List.nil_append, List.cons_append, finL_val, finL_of, finL_any, finL_app, finL_new, finL_gr, finL_row, finL_box, finL_nil, Act.put, List.setIfInBounds_toArray, List.set_cons_zero, List.set_cons_succ, Nat.reduceAdd]
    have HB4 := Lib.hid (below_then HB3.out HB3.out.size hI)
    have HGR4 := Lib.hid (gr_below HGR.out hI)
    have HRD4 := Lib.hid (rds_below HRD.out hI)
    clear hI hF HB3 HGR HRD HQ hq1
    obtain ⟨w4, rfl⟩ : ∃ w4 : World, w4 = wq := ⟨_, rfl⟩
    generalize q0 % nb = p at hlt ⊢
    have hO := own_lit_ .u8 5 w4 w4.heap.size [] 0 rfl (Nat.le_refl _) (by simp)
    have hb2 := below_alloc (Below.refl w4.heap.size w4) (.cells (nums .u8 []).toArray 5)
    have HO : Hid (Gr .u8 5 (w4.alloc (.cells #[] 5)) w4.heap.size (.slice (some ⟨w4.heap.size, 0, none⟩) 0 0) []) := Lib.hid (.inl hO)
    have HB : Hid (Below w4.heap.size w4 (w4.alloc (.cells #[] 5))) := Lib.hid hb2
    have HR1 := Lib.hid (rds_below HRD4.out HB.out)
    clear hO hb2
    go_upto_region 10 with (at_builtin; refine gapp_row (h1 := int_one .u8) tb rfl (.tmp 30) (.tmp 31) rfl rfl rfl HO.out HR1.out HB.out HB.out.size ?cL ?_; (case cL => simp; omega); intro v5 w5 ho hb3 hs1 hf; have HO5 := Lib.hid ho; have HB5 := Lib.hid hb3; clear ho hb3 hs1 hf)
    rw [List.nil_append] at HO5
    have hxl : xs.length = nb := HL3.out
    obtain ⟨g, n', cap, rfl, HLg, hpos, hmg, hcg, hgb, hgl⟩ := gr_form HO5.out (by omega)
    obtain rfl : n' = nb := by rw [← HLg.out]; exact hxl
    obtain ⟨hcl, hfr⟩ := gr_cell 0 HO5.out p hlt
    obtain ⟨a, ha, ha256⟩ := getD_nat HBY.out p
    rw [ha] at hcl
    have hxor := xor8 a bt ha256 hbt
    have HA := Lib.hid ha
    have hx256 : a ^^^ bt < 256 := Nat.xor_lt_two_pow (n := 8) ha256 hbt
    obtain ⟨X, hX⟩ : ∃ X, a ^^^ bt = X := ⟨_, rfl⟩
    have HX := Lib.hid hX
    rw [hX] at hxor hx256
    have HGR5 := Lib.hid (gr_below HGR4.out HB5.out)
    have hgw : ∀ j, (Value.slice A3 n' c3).ownBlock = some j → j < w4.heap.size := fun j hj => gr_lt HGR4.out j hj
    have HGR6 : Hid (Gr .u8 5 (w5.setCell ⟨g, p, none⟩ (.int .u8 (X : Nat))) w2.heap.size (.slice A3 n' c3) xs) := Lib.hid (gr_move HGR5.out fun j hj => Below.heap_setCell _ _ _ _ (by have := hgw j hj; show j ≠ g; omega))
    have hg6 := gr_set HO5.out p ((X : Nat) : Int)
    obtain ⟨A6, n6, c6, e6, _, _, _, hr6⟩ := gr_open hg6
    injection e6 with e61 e62 e63
    subst e61 e62 e63
    have hw4 : w.heap.size ≤ w4.heap.size := HB4.out.size
    have HB6 : Hid (Below w.heap.size w (w5.setCell ⟨g, p, none⟩ (.int .u8 (X : Nat)))) := Lib.hid ((below_then HB4.out HB4.out.size HB5.out).setCell (p := ⟨g, p, none⟩) (by show w.heap.size ≤ g; omega) _)
    have hbz : Byte (xs.set p ((X : Nat) : Int)) := fun x hx => by
      rcases List.mem_or_eq_of_mem_set hx with h | h
      · exact HBY.out x h
      · rw [h]; omega
    have CP := Lib.hid (parse_gen (some ⟨g, 0, none⟩) n' cap (xs.set p ((X : Nat) : Int)) (w5.setCell ⟨g, p, none⟩ (.int .u8 (X : Nat))) hr6 hbz hcg (by omega))
    have HNEQ : Hid (bt ≠ 0 → ¬ IsPage (xs.set p ((X : Nat) : Int)) (nn ps)) := Lib.hid (fun hb0 hip => by
      have e1 : xs.set p ((X : Nat) : Int) = xs := by rw [← hip.2, HPG.out]
      have e2 : (xs.set p ((X : Nat) : Int)).getD p 0 = ((X : Nat) : Int) := by rw [List.getD_eq_getElem?_getD, List.getElem?_set_self (by rw [hxl]; exact hlt)]; rfl
      rw [e1, HA.out] at e2
      have := xor_ne a bt hb0
      have := HX.out
      omega)
    clear hg6 hr6 hbz hX ha HO5 HB5 HR1 HO HB HGR5 HGR4 HRD4 HLg HB4
    have ha0 : ((a : Nat) : Int) = ((a : Nat) : Int) := rfl
    go_wp2_with fail
    refine CP.out.mono ?_
    rintro e w7 ⟨hb7, bv, wv, ex, qs, rfl, hgd, hbv, hwv, hcase⟩
    obtain ⟨Ab, nbb, cb, rfl, _⟩ := gr_open hbv
    obtain ⟨Aw, nw, cw, rfl, _⟩ := gr_open hwv
    have HGD := Lib.hid hgd
    have HBV := Lib.hid hbv
    have HWV := Lib.hid hwv
    have HCA := Lib.hid hcase
    have HGR7 := Lib.hid (gr_below HGR6.out hb7)
    have HB7 := Lib.hid (below_then HB6.out HB6.out.size hb7)
    generalize (w5.setCell ⟨g, p, none⟩ (.int .u8 (X : Nat))).heap.size = z6 at HBV HWV
    clear hb7 hgd hbv hwv hcase HGR6 HB6 CP hcl hfr hxor
    go_upto_region 12 with (first | (refine wpList_store_box rfl 36 (.tmp 10) (.tmp 43) rfl w7.heap.size [.slice Ab nbb cb, .slice Aw nw cw] rfl rfl (heap_alloc_new w7 _) rfl info36 rfl ?_; intro w8 hs8; have HS8 := Lib.hid hs8; clear hs8) | fail)
    have hb8 : Below w7.heap.size w7 w8 := HS8.out.then_ (below_alloc (Below.refl _ _) _) (Nat.le_refl _)
    have HX8 := Lib.hid HS8.out.at_
    have HBV8 := Lib.hid (gr_below HBV.out hb8)
    have HWV8 := Lib.hid (gr_below HWV.out hb8)
    have HGR8 := Lib.hid (gr_below HGR7.out hb8)
    have HB8 := Lib.hid (below_then HB7.out HB7.out.size hb8)
    clear hb8 HS8 HBV HWV HGR7 HB7
    generalize w7.heap.size = b8 at HX8 ⊢
    rcases HCA.out with ⟨rfl, hip⟩ | ⟨rfl, _, _⟩
    · by_cases hb0 : bt = 0
      · have hz : (((bt : Nat) : Int) != 0) = false := by rw [hb0]; rfl
        have HZ := Lib.hid hz
        clear hz hip
        refine plain_ (fun wq => Below w8.heap.size w8 wq) (fun _ => True) reg_5_12 rfl inv0 (fun _ _ _ _ => trivial) (Below.refl _ _) trivial ?_
        refine w_move (.inl rfl) (fun vs w hK => ⟨wants_none rfl, rho_out rfl rfl⟩) ?_
        refine w_val [(45, _)] (_) (fun vs w hK => ⟨wants_none rfl, rho_in rfl (fv (hK 0 (memE rfl))), trivial⟩) rfl (fun wq hI => by exact run_int_eql (r := true) rfl rfl rfl rfl) ?_
        refine w_move (.inl rfl) (fun vs w hK => ⟨wants_none rfl, rho_in rfl (fv (hK 1 (memE rfl)))⟩) ?_
        refine w_move (.inl rfl) (fun vs w hK => ⟨wants_g rfl (fv (hK 2 (memE rfl))), rho_out rfl rfl⟩) ?_
        refine w_val [(48, _)] (_) (fun vs w hK => ⟨wants_g rfl (fv (hK 2 (memE rfl))), rho_in rfl (fv (hK 3 (memE rfl))), trivial⟩) rfl (fun wq hI => by exact run_int_neq (r := false) rfl rfl rfl HZ.out) ?_
        refine w_pick (b := true) rfl (fun vs w hK => ⟨wants_none rfl, (rho_in rfl (fv (hK 2 (memE rfl)))), (rho_in rfl (fv (hK 4 (memE rfl))))⟩) ?_
        refine w_move (.inl rfl) (fun vs w hK => ⟨wants_none rfl, rho_in rfl (fv (hK 5 (memE rfl)))⟩) ?_
        refine w_not (fun vs wq hK => wants_not rfl (fv (hK 6 (memE rfl)))) ?_
        refine w_not (fun vs wq hK => wants_not rfl (fv (hK 6 (memE rfl)))) ?_
        refine w_not (fun vs wq hK => wants_not rfl (fv (hK 6 (memE rfl)))) ?_
        refine w_not (fun vs wq hK => wants_not rfl (fv (hK 6 (memE rfl)))) ?_
        refine w_pick (b := false) rfl (fun vs w hK => ⟨wants_none rfl, (rho_in rfl (fv (hK 6 (memE rfl)))), rho_const⟩) ?_
        refine w_end rfl rfl rfl (fun vs wq hI hF => ?_)
        simp only [List.reverse_cons, List.reverse_nil, List.nil_append, List.cons_append, finL_val, finL_of, finL_any, finL_app, finL_new, finL_gr, finL_row, finL_box, finL_nil, Act.put, List.setIfInBounds_toArray, List.set_cons_zero, List.set_cons_succ, Nat.reduceAdd]
        have HB9 := Lib.hid (below_then HB8.out HB8.out.size hI)
        have HGR9 := Lib.hid (gr_below HGR8.out hI)
        clear hI hF HB8 HGR8 HBV8 HWV8 HX8
        obtain ⟨w9, rfl⟩ : ∃ w9 : World, w9 = wq := ⟨_, rfl⟩
        obtain ⟨A9, n9, c9, e9, _, _, _, hr9⟩ := gr_open HGR9.out
        injection e9 with e91 e92 e93
        subst e91 e92 e93
        obtain ⟨hcut, hC⟩ := cut_to (enc := Value.int .u8) (h1 := int_one .u8) 0 tb A3 n' c3 p (by omega) h3c (p : Int) rfl
        have CQ := Lib.hid (parse_gen A3 p c3 (xs.take p) w9 (hC w9 xs hr9) (HBY.out.take p) (by omega) (by omega))
        clear hr9 hC
        go_wp2_with fail
        refine CQ.out.mono ?_
        rintro e w10 ⟨hb10, bv, wv, ex2, rs, rfl, hgd, hbv, hwv, hcase⟩
        obtain ⟨Ab2, nb2, cb2, rfl, _⟩ := gr_open hbv
        obtain ⟨Aw2, nw2, cw2, rfl, _⟩ := gr_open hwv
        have HGD2 := Lib.hid hgd
        have HBV2 := Lib.hid hbv
        have HWV2 := Lib.hid hwv
        have HCA2 := Lib.hid hcase
        have HB10 := Lib.hid (below_then HB9.out HB9.out.size hb10)
        clear hb10 hgd hbv hwv hcase HGR9 HB9 CQ
        go_upto_region 15 with (first | (refine wpList_store_box rfl 36 (.tmp 12) (.tmp 62) rfl w10.heap.size [.slice Ab2 nb2 cb2, .slice Aw2 nw2 cw2] rfl rfl (heap_alloc_new w10 _) rfl info36 rfl ?_; intro w11 hs11; have HS11 := Lib.hid hs11; clear hs11) | fail)
        have hb11 : Below w10.heap.size w10 w11 := HS11.out.then_ (below_alloc (Below.refl _ _) _) (Nat.le_refl _)
        have HX11 := Lib.hid HS11.out.at_
        have HBV11 := Lib.hid (gr_below HBV2.out hb11)
        have HWV11 := Lib.hid (gr_below HWV2.out hb11)
        have HB11 := Lib.hid (below_then HB10.out HB10.out.size hb11)
        clear hb11 HS11 HBV2 HWV2 HB10
        generalize w10.heap.size = b11 at HX11 ⊢
        rcases HCA2.out with ⟨rfl, hip2⟩ | ⟨rfl, _, _⟩
        · have HD2 : Hid (decide (rs = ps) = false) := Lib.hid (decide_eq_false (fun h => by
            have h1 := congrArg List.length hip2.2
            rw [h, HPG.out, List.length_take, hxl] at h1
            omega))
          clear hip2
          refine plain_ (fun wq => Below w11.heap.size w11 wq) (fun _ => True) reg_5_15 rfl inv0 (fun _ _ _ _ => trivial) (Below.refl _ _) trivial ?_
          refine w_move (.inl rfl) (fun vs w hK => ⟨wants_none rfl, rho_out rfl rfl⟩) ?_
          refine w_val [(64, _)] (_) (fun vs w hK => ⟨wants_none rfl, rho_in rfl (fv (hK 0 (memE rfl))), trivial⟩) rfl (fun wq hI => by exact run_int_neq (r := false) rfl rfl rfl rfl) ?_
          refine w_move (.inl rfl) (fun vs w hK => ⟨wants_none rfl, rho_in rfl (fv (hK 1 (memE rfl)))⟩) ?_
          refine w_val [(12, _)] (.agg [Value.slice Ab2 nb2 cb2, .slice Aw2 nw2 cw2].toArray) (fun vs w hK => ⟨wants_g rfl (fv (hK 2 (memE rfl))), rho_out rfl rfl, trivial⟩) rfl (fun wq hI => by exact op_load_at rfl ⟨b11, 0, none⟩ [.slice Ab2 nb2 cb2, .slice Aw2 nw2 cw2] rfl (box_cells (box_stays HX11.out hI)) Try.underlying36 rfl info36) ?_
          refine w_callF (FW.of (isSts rs) (fun _ _ _ h hb => isSts_below h hb)) [(67, _)] _ (by decide) (fun vs w hK => ⟨wants_g rfl (fv (hK 2 (memE rfl))), rho_in rfl (fv (hK 3 (memE rfl))), trivial⟩) rfl rfl Try.func21 (by kernel_rfl) rfl (fun wq hI => (all_page _ _ rs wq w9.heap.size HGD2.out (gr_below HBV11.out hI) (gr_below HWV11.out hI)).mono fun e w' ⟨v, he, ho, hb⟩ => ⟨v, he, hb, isSts_own ho⟩) (margs rfl) ?_
          refine w_move (.inl rfl) (fun vs w hK => ⟨wants_g rfl (fv (hK 2 (memE rfl))), rho_out rfl rfl⟩) ?_
          refine w_any (.val (.bool false)) (by decide) (fun vs wq hI hK => ?_) ?_
          · obtain ⟨Aq, nq, cq, e1, hsq⟩ : ∃ A n c, vs 4 = .slice A n c ∧ Sts encP 2 wq A n rs := hK 4 (memE rfl)
            refine ob_call [(68, .slice Aq nq cq), (69, .slice A n c)] _ (wants_g rfl (fv (hK 2 (memE rfl)))) ⟨rho_in rfl e1, rho_in rfl (fv (hK 5 (memE rfl))), trivial⟩ rfl rfl Try.func20 (by kernel_rfl) rfl (margs rfl) ((same_any Aq nq cq A n c rs ps wq hsq (sts_below HST.out (below_then HB11.out HB11.out.size hI))).mono ?_)
            rintro e w' ⟨rfl, hb⟩
            exact ⟨_, rfl, hb, congrArg Value.bool HD2.out⟩
          refine w_val [(70, _)] _ (fun vs w hK => ⟨wants_g rfl (fv (hK 2 (memE rfl))), rho_in rfl (fv (hK 6 (memE rfl))), trivial⟩) rfl (fun wq hI => by simp only [execOp, Option.map_some, Option.map_none, lk_tmp, lk_const, lkT_cons, ↓reduceIte, Nat.reduceEqDiff]; go_simp; (first | done | rfl)) ?_
          refine w_pick (b := false) rfl (fun vs w hK => ⟨wants_none rfl, (rho_in rfl (fv (hK 2 (memE rfl)))), (rho_in rfl (fv (hK 7 (memE rfl))))⟩) ?_
          refine w_move (.inr rfl) (fun vs w hK => ⟨wants_none rfl, rho_in rfl (fv (hK 8 (memE rfl)))⟩) ?_
          refine w_end rfl rfl rfl (fun vs wq hI hF => ?_)
          simp only [List.reverse_cons, List.reverse_nil, List.nil_append, List.cons_append, finL_val, finL_of, finL_any, finL_app, finL_new, finL_gr, finL_row, finL_box, finL_nil, Act.put, List.setIfInBounds_toArray, List.set_cons_zero, List.set_cons_succ, Nat.reduceAdd]
          have HB12 := Lib.hid (below_then HB11.out HB11.out.size hI)
          clear hI hF
          go_wp2_with fail
          go_ret
          exact ⟨rfl, HB12.out⟩
        · refine plain_ (fun wq => Below w11.heap.size w11 wq) (fun _ => True) reg_5_15 rfl inv0 (fun _ _ _ _ => trivial) (Below.refl _ _) trivial ?_
          refine w_move (.inl rfl) (fun vs w hK => ⟨wants_none rfl, rho_out rfl rfl⟩) ?_
          refine w_val [(64, _)] (_) (fun vs w hK => ⟨wants_none rfl, rho_in rfl (fv (hK 0 (memE rfl))), trivial⟩) rfl (fun wq hI => by exact run_int_neq (r := true) rfl rfl rfl rfl) ?_
          refine w_move (.inl rfl) (fun vs w hK => ⟨wants_none rfl, rho_in rfl (fv (hK 1 (memE rfl)))⟩) ?_
          refine w_not (fun vs wq hK => wants_not rfl (fv (hK 2 (memE rfl)))) ?_
          refine w_not (fun vs wq hK => wants_not rfl (fv (hK 2 (memE rfl)))) ?_
          refine w_not (fun vs wq hK => wants_not rfl (fv (hK 2 (memE rfl)))) ?_
          refine w_not (fun vs wq hK => wants_not rfl (fv (hK 2 (memE rfl)))) ?_
          refine w_not (fun vs wq hK => wants_not rfl (fv (hK 2 (memE rfl)))) ?_
          refine w_pick (b := true) rfl (fun vs w hK => ⟨wants_none rfl, (rho_in rfl (fv (hK 2 (memE rfl)))), rho_const⟩) ?_
          refine w_move (.inr rfl) (fun vs w hK => ⟨wants_none rfl, rho_in rfl (fv (hK 8 (memE rfl)))⟩) ?_
          refine w_end rfl rfl rfl (fun vs wq hI hF => ?_)
          simp only [List.reverse_cons, List.reverse_nil, List.nil_append, List.cons_append, finL_val, finL_of, finL_any, finL_app, finL_new, finL_gr, finL_row, finL_box, finL_nil, Act.put, List.setIfInBounds_toArray, List.set_cons_zero, List.set_cons_succ, Nat.reduceAdd]
          have HB12 := Lib.hid (below_then HB11.out HB11.out.size hI)
          clear hI hF
          go_wp2_with fail
          go_ret
          exact ⟨rfl, HB12.out⟩
      · have hz : (((bt : Nat) : Int) != 0) = true := by simp only [bne_iff_ne]; omega
        have HZ := Lib.hid hz
        have HD : Hid (decide (qs = ps) = false) := Lib.hid (decide_eq_false (fun h => HNEQ.out hb0 (by rw [← h]; exact hip)))
        clear hz hip
        refine plain_ (fun wq => Below w8.heap.size w8 wq) (fun _ => True) reg_5_12 rfl inv0 (fun _ _ _ _ => trivial) (Below.refl _ _) trivial ?_
        refine w_move (.inl rfl) (fun vs w hK => ⟨wants_none rfl, rho_out rfl rfl⟩) ?_
        refine w_val [(45, _)] (_) (fun vs w hK => ⟨wants_none rfl, rho_in rfl (fv (hK 0 (memE rfl))), trivial⟩) rfl (fun wq hI => by exact run_int_eql (r := true) rfl rfl rfl rfl) ?_
        refine w_move (.inl rfl) (fun vs w hK => ⟨wants_none rfl, rho_in rfl (fv (hK 1 (memE rfl)))⟩) ?_
        refine w_move (.inl rfl) (fun vs w hK => ⟨wants_g rfl (fv (hK 2 (memE rfl))), rho_out rfl rfl⟩) ?_
        refine w_val [(48, _)] (_) (fun vs w hK => ⟨wants_g rfl (fv (hK 2 (memE rfl))), rho_in rfl (fv (hK 3 (memE rfl))), trivial⟩) rfl (fun wq hI => by exact run_int_neq (r := true) rfl rfl rfl HZ.out) ?_
        refine w_pick (b := true) rfl (fun vs w hK => ⟨wants_none rfl, (rho_in rfl (fv (hK 2 (memE rfl)))), (rho_in rfl (fv (hK 4 (memE rfl))))⟩) ?_
        refine w_move (.inl rfl) (fun vs w hK => ⟨wants_none rfl, rho_in rfl (fv (hK 5 (memE rfl)))⟩) ?_
        refine w_val [(10, _)] (.agg [Value.slice Ab nbb cb, .slice Aw nw cw].toArray) (fun vs w hK => ⟨wants_g rfl (fv (hK 6 (memE rfl))), rho_out rfl rfl, trivial⟩) rfl (fun wq hI => by exact op_load_at rfl ⟨b8, 0, none⟩ [.slice Ab nbb cb, .slice Aw nw cw] rfl (box_cells (box_stays HX8.out hI)) Try.underlying36 rfl info36) ?_
        refine w_callF (FW.of (isSts qs) (fun _ _ _ h hb => isSts_below h hb)) [(52, _)] _ (by decide) (fun vs w hK => ⟨wants_g rfl (fv (hK 6 (memE rfl))), rho_in rfl (fv (hK 7 (memE rfl))), trivial⟩) rfl rfl Try.func21 (by kernel_rfl) rfl (fun wq hI => (all_page _ _ qs wq z6 HGD.out (gr_below HBV8.out hI) (gr_below HWV8.out hI)).mono fun e w' ⟨v, he, ho, hb⟩ => ⟨v, he, hb, isSts_own ho⟩) (margs rfl) ?_
        refine w_move (.inl rfl) (fun vs w hK => ⟨wants_g rfl (fv (hK 6 (memE rfl))), rho_out rfl rfl⟩) ?_
        refine w_any (.val (.bool false)) (by decide) (fun vs wq hI hK => ?_) ?_
        · obtain ⟨Aq, nq, cq, e1, hsq⟩ : ∃ A n c, vs 8 = .slice A n c ∧ Sts encP 2 wq A n qs := hK 8 (memE rfl)
          refine ob_call [(53, .slice Aq nq cq), (54, .slice A n c)] _ (wants_g rfl (fv (hK 6 (memE rfl)))) ⟨rho_in rfl e1, rho_in rfl (fv (hK 9 (memE rfl))), trivial⟩ rfl rfl Try.func20 (by kernel_rfl) rfl (margs rfl) ((same_any Aq nq cq A n c qs ps wq hsq (sts_below HST.out (below_then HB8.out HB8.out.size hI))).mono ?_)
          rintro e w' ⟨rfl, hb⟩
          exact ⟨_, rfl, hb, congrArg Value.bool HD.out⟩
        refine w_pick (b := true) rfl (fun vs w hK => ⟨wants_none rfl, (rho_in rfl (fv (hK 6 (memE rfl)))), (rho_in rfl (fv (hK 10 (memE rfl))))⟩) ?_
        refine w_end rfl rfl rfl (fun vs wq hI hF => ?_)
        simp only [List.reverse_cons, List.reverse_nil, List.nil_append, List.cons_append, finL_val, finL_of, finL_any, finL_app, finL_new, finL_gr, finL_row, finL_box, finL_nil, Act.put, List.setIfInBounds_toArray, List.set_cons_zero, List.set_cons_succ, Nat.reduceAdd]
        have HB9 := Lib.hid (below_then HB8.out HB8.out.size hI)
        have HGR9 := Lib.hid (gr_below HGR8.out hI)
        clear hI hF HB8 HGR8 HBV8 HWV8 HX8
        obtain ⟨w9, rfl⟩ : ∃ w9 : World, w9 = wq := ⟨_, rfl⟩
        obtain ⟨A9, n9, c9, e9, _, _, _, hr9⟩ := gr_open HGR9.out
        injection e9 with e91 e92 e93
        subst e91 e92 e93
        obtain ⟨hcut, hC⟩ := cut_to (enc := Value.int .u8) (h1 := int_one .u8) 0 tb A3 n' c3 p (by omega) h3c (p : Int) rfl
        have CQ := Lib.hid (parse_gen A3 p c3 (xs.take p) w9 (hC w9 xs hr9) (HBY.out.take p) (by omega) (by omega))
        clear hr9 hC
        go_wp2_with fail
        refine CQ.out.mono ?_
        rintro e w10 ⟨hb10, bv, wv, ex2, rs, rfl, hgd, hbv, hwv, hcase⟩
        obtain ⟨Ab2, nb2, cb2, rfl, _⟩ := gr_open hbv
        obtain ⟨Aw2, nw2, cw2, rfl, _⟩ := gr_open hwv
        have HGD2 := Lib.hid hgd
        have HBV2 := Lib.hid hbv
        have HWV2 := Lib.hid hwv
        have HCA2 := Lib.hid hcase
        have HB10 := Lib.hid (below_then HB9.out HB9.out.size hb10)
        clear hb10 hgd hbv hwv hcase HGR9 HB9 CQ
        go_upto_region 15 with (first | (refine wpList_store_box rfl 36 (.tmp 12) (.tmp 62) rfl w10.heap.size [.slice Ab2 nb2 cb2, .slice Aw2 nw2 cw2] rfl rfl (heap_alloc_new w10 _) rfl info36 rfl ?_; intro w11 hs11; have HS11 := Lib.hid hs11; clear hs11) | fail)
        have hb11 : Below w10.heap.size w10 w11 := HS11.out.then_ (below_alloc (Below.refl _ _) _) (Nat.le_refl _)
        have HX11 := Lib.hid HS11.out.at_
        have HBV11 := Lib.hid (gr_below HBV2.out hb11)
        have HWV11 := Lib.hid (gr_below HWV2.out hb11)
        have HB11 := Lib.hid (below_then HB10.out HB10.out.size hb11)
        clear hb11 HS11 HBV2 HWV2 HB10
        generalize w10.heap.size = b11 at HX11 ⊢
        rcases HCA2.out with ⟨rfl, hip2⟩ | ⟨rfl, _, _⟩
        · have HD2 : Hid (decide (rs = ps) = false) := Lib.hid (decide_eq_false (fun h => by
            have h1 := congrArg List.length hip2.2
            rw [h, HPG.out, List.length_take, hxl] at h1
            omega))
          clear hip2
          refine plain_ (fun wq => Below w11.heap.size w11 wq) (fun _ => True) reg_5_15 rfl inv0 (fun _ _ _ _ => trivial) (Below.refl _ _) trivial ?_
          refine w_move (.inl rfl) (fun vs w hK => ⟨wants_none rfl, rho_out rfl rfl⟩) ?_
          refine w_val [(64, _)] (_) (fun vs w hK => ⟨wants_none rfl, rho_in rfl (fv (hK 0 (memE rfl))), trivial⟩) rfl (fun wq hI => by exact run_int_neq (r := false) rfl rfl rfl rfl) ?_
          refine w_move (.inl rfl) (fun vs w hK => ⟨wants_none rfl, rho_in rfl (fv (hK 1 (memE rfl)))⟩) ?_
          refine w_val [(12, _)] (.agg [Value.slice Ab2 nb2 cb2, .slice Aw2 nw2 cw2].toArray) (fun vs w hK => ⟨wants_g rfl (fv (hK 2 (memE rfl))), rho_out rfl rfl, trivial⟩) rfl (fun wq hI => by exact op_load_at rfl ⟨b11, 0, none⟩ [.slice Ab2 nb2 cb2, .slice Aw2 nw2 cw2] rfl (box_cells (box_stays HX11.out hI)) Try.underlying36 rfl info36) ?_
          refine w_callF (FW.of (isSts rs) (fun _ _ _ h hb => isSts_below h hb)) [(67, _)] _ (by decide) (fun vs w hK => ⟨wants_g rfl (fv (hK 2 (memE rfl))), rho_in rfl (fv (hK 3 (memE rfl))), trivial⟩) rfl rfl Try.func21 (by kernel_rfl) rfl (fun wq hI => (all_page _ _ rs wq w9.heap.size HGD2.out (gr_below HBV11.out hI) (gr_below HWV11.out hI)).mono fun e w' ⟨v, he, ho, hb⟩ => ⟨v, he, hb, isSts_own ho⟩) (margs rfl) ?_
          refine w_move (.inl rfl) (fun vs w hK => ⟨wants_g rfl (fv (hK 2 (memE rfl))), rho_out rfl rfl⟩) ?_
          refine w_any (.val (.bool false)) (by decide) (fun vs wq hI hK => ?_) ?_
          · obtain ⟨Aq, nq, cq, e1, hsq⟩ : ∃ A n c, vs 4 = .slice A n c ∧ Sts encP 2 wq A n rs := hK 4 (memE rfl)
            refine ob_call [(68, .slice Aq nq cq), (69, .slice A n c)] _ (wants_g rfl (fv (hK 2 (memE rfl)))) ⟨rho_in rfl e1, rho_in rfl (fv (hK 5 (memE rfl))), trivial⟩ rfl rfl Try.func20 (by kernel_rfl) rfl (margs rfl) ((same_any Aq nq cq A n c rs ps wq hsq (sts_below HST.out (below_then HB11.out HB11.out.size hI))).mono ?_)
            rintro e w' ⟨rfl, hb⟩
            exact ⟨_, rfl, hb, congrArg Value.bool HD2.out⟩
          refine w_val [(70, _)] _ (fun vs w hK => ⟨wants_g rfl (fv (hK 2 (memE rfl))), rho_in rfl (fv (hK 6 (memE rfl))), trivial⟩) rfl (fun wq hI => by simp only [execOp, Option.map_some, Option.map_none, lk_tmp, lk_const, lkT_cons, ↓reduceIte, Nat.reduceEqDiff]; go_simp; (first | done | rfl)) ?_
          refine w_pick (b := false) rfl (fun vs w hK => ⟨wants_none rfl, (rho_in rfl (fv (hK 2 (memE rfl)))), (rho_in rfl (fv (hK 7 (memE rfl))))⟩) ?_
          refine w_move (.inr rfl) (fun vs w hK => ⟨wants_none rfl, rho_in rfl (fv (hK 8 (memE rfl)))⟩) ?_
          refine w_end rfl rfl rfl (fun vs wq hI hF => ?_)
          simp only [List.reverse_cons, List.reverse_nil, List.nil_append, List.cons_append, finL_val, finL_of, finL_any, finL_app, finL_new, finL_gr, finL_row, finL_box, finL_nil, Act.put, List.setIfInBounds_toArray, List.set_cons_zero, List.set_cons_succ, Nat.reduceAdd]
          have HB12 := Lib.hid (below_then HB11.out HB11.out.size hI)
          clear hI hF
          go_wp2_with fail
          go_ret
          exact ⟨rfl, HB12.out⟩
        · refine plain_ (fun wq => Below w11.heap.size w11 wq) (fun _ => True) reg_5_15 rfl inv0 (fun _ _ _ _ => trivial) (Below.refl _ _) trivial ?_
          refine w_move (.inl rfl) (fun vs w hK => ⟨wants_none rfl, rho_out rfl rfl⟩) ?_
          refine w_val [(64, _)] (_) (fun vs w hK => ⟨wants_none rfl, rho_in rfl (fv (hK 0 (memE rfl))), trivial⟩) rfl (fun wq hI => by exact run_int_neq (r := true) rfl rfl rfl rfl) ?_
          refine w_move (.inl rfl) (fun vs w hK => ⟨wants_none rfl, rho_in rfl (fv (hK 1 (memE rfl)))⟩) ?_
          refine w_not (fun vs wq hK => wants_not rfl (fv (hK 2 (memE rfl)))) ?_
          refine w_not (fun vs wq hK => wants_not rfl (fv (hK 2 (memE rfl)))) ?_
          refine w_not (fun vs wq hK => wants_not rfl (fv (hK 2 (memE rfl)))) ?_
          refine w_not (fun vs wq hK => wants_not rfl (fv (hK 2 (memE rfl)))) ?_
          refine w_not (fun vs wq hK => wants_not rfl (fv (hK 2 (memE rfl)))) ?_
          refine w_pick (b := true) rfl (fun vs w hK => ⟨wants_none rfl, (rho_in rfl (fv (hK 2 (memE rfl)))), rho_const⟩) ?_
          refine w_move (.inr rfl) (fun vs w hK => ⟨wants_none rfl, rho_in rfl (fv (hK 8 (memE rfl)))⟩) ?_
          refine w_end rfl rfl rfl (fun vs wq hI hF => ?_)
          simp only [List.reverse_cons, List.reverse_nil, List.nil_append, List.cons_append, finL_val, finL_of, finL_any, finL_app, finL_new, finL_gr, finL_row, finL_box, finL_nil, Act.put, List.setIfInBounds_toArray, List.set_cons_zero, List.set_cons_succ, Nat.reduceAdd]
          have HB12 := Lib.hid (below_then HB11.out HB11.out.size hI)
          clear hI hF
          go_wp2_with fail
          go_ret
          exact ⟨rfl, HB12.out⟩
    · refine plain_ (fun wq => Below w8.heap.size w8 wq) (fun _ => True) reg_5_12 rfl inv0 (fun _ _ _ _ => trivial) (Below.refl _ _) trivial ?_
      refine w_move (.inl rfl) (fun vs w hK => ⟨wants_none rfl, rho_out rfl rfl⟩) ?_
      refine w_val [(45, _)] (_) (fun vs w hK => ⟨wants_none rfl, rho_in rfl (fv (hK 0 (memE rfl))), trivial⟩) rfl (fun wq hI => by exact run_int_eql (r := false) rfl rfl rfl rfl) ?_
      refine w_move (.inl rfl) (fun vs w hK => ⟨wants_none rfl, rho_in rfl (fv (hK 1 (memE rfl)))⟩) ?_
      refine w_not (fun vs wq hK => wants_not rfl (fv (hK 2 (memE rfl)))) ?_
      refine w_not (fun vs wq hK => wants_not rfl (fv (hK 2 (memE rfl)))) ?_
      refine w_pick (b := false) rfl (fun vs w hK => ⟨wants_none rfl, (rho_in rfl (fv (hK 2 (memE rfl)))), rho_const⟩) ?_
      refine w_move (.inl rfl) (fun vs w hK => ⟨wants_none rfl, rho_in rfl (fv (hK 5 (memE rfl)))⟩) ?_
      refine w_not (fun vs wq hK => wants_not rfl (fv (hK 6 (memE rfl)))) ?_
      refine w_not (fun vs wq hK => wants_not rfl (fv (hK 6 (memE rfl)))) ?_
      refine w_not (fun vs wq hK => wants_not rfl (fv (hK 6 (memE rfl)))) ?_
      refine w_not (fun vs wq hK => wants_not rfl (fv (hK 6 (memE rfl)))) ?_
      refine w_pick (b := false) rfl (fun vs w hK => ⟨wants_none rfl, (rho_in rfl (fv (hK 6 (memE rfl)))), rho_const⟩) ?_
      refine w_end rfl rfl rfl (fun vs wq hI hF => ?_)
      simp only [List.reverse_cons, List.reverse_nil, List.nil_append, List.cons_append, finL_val, finL_of, finL_any, finL_app, finL_new, finL_gr, finL_row, finL_box, finL_nil, Act.put, List.setIfInBounds_toArray, List.set_cons_zero, List.set_cons_succ, Nat.reduceAdd]
      have HB9 := Lib.hid (below_then HB8.out HB8.out.size hI)
      have HGR9 := Lib.hid (gr_below HGR8.out hI)
      clear hI hF HB8 HGR8 HBV8 HWV8 HX8
      obtain ⟨w9, rfl⟩ : ∃ w9 : World, w9 = wq := ⟨_, rfl⟩
      obtain ⟨A9, n9, c9, e9, _, _, _, hr9⟩ := gr_open HGR9.out
      injection e9 with e91 e92 e93
      subst e91 e92 e93
      obtain ⟨hcut, hC⟩ := cut_to (enc := Value.int .u8) (h1 := int_one .u8) 0 tb A3 n' c3 p (by omega) h3c (p : Int) rfl
      have CQ := Lib.hid (parse_gen A3 p c3 (xs.take p) w9 (hC w9 xs hr9) (HBY.out.take p) (by omega) (by omega))
      clear hr9 hC
      go_wp2_with fail
      refine CQ.out.mono ?_
      rintro e w10 ⟨hb10, bv, wv, ex2, rs, rfl, hgd, hbv, hwv, hcase⟩
      obtain ⟨Ab2, nb2, cb2, rfl, _⟩ := gr_open hbv
      obtain ⟨Aw2, nw2, cw2, rfl, _⟩ := gr_open hwv
      have HGD2 := Lib.hid hgd
      have HBV2 := Lib.hid hbv
      have HWV2 := Lib.hid hwv
      have HCA2 := Lib.hid hcase
      have HB10 := Lib.hid (below_then HB9.out HB9.out.size hb10)
      clear hb10 hgd hbv hwv hcase HGR9 HB9 CQ
      go_upto_region 15 with (first | (refine wpList_store_box rfl 36 (.tmp 12) (.tmp 62) rfl w10.heap.size [.slice Ab2 nb2 cb2, .slice Aw2 nw2 cw2] rfl rfl (heap_alloc_new w10 _) rfl info36 rfl ?_; intro w11 hs11; have HS11 := Lib.hid hs11; clear hs11) | fail)
      have hb11 : Below w10.heap.size w10 w11 := HS11.out.then_ (below_alloc (Below.refl _ _) _) (Nat.le_refl _)
      have HX11 := Lib.hid HS11.out.at_
      have HBV11 := Lib.hid (gr_below HBV2.out hb11)
      have HWV11 := Lib.hid (gr_below HWV2.out hb11)
      have HB11 := Lib.hid (below_then HB10.out HB10.out.size hb11)
      clear hb11 HS11 HBV2 HWV2 HB10
      generalize w10.heap.size = b11 at HX11 ⊢
      rcases HCA2.out with ⟨rfl, hip2⟩ | ⟨rfl, _, _⟩
      · have HD2 : Hid (decide (rs = ps) = false) := Lib.hid (decide_eq_false (fun h => by
          have h1 := congrArg List.length hip2.2
          rw [h, HPG.out, List.length_take, hxl] at h1
          omega))
        clear hip2
        refine plain_ (fun wq => Below w11.heap.size w11 wq) (fun _ => True) reg_5_15 rfl inv0 (fun _ _ _ _ => trivial) (Below.refl _ _) trivial ?_
        refine w_move (.inl rfl) (fun vs w hK => ⟨wants_none rfl, rho_out rfl rfl⟩) ?_
        refine w_val [(64, _)] (_) (fun vs w hK => ⟨wants_none rfl, rho_in rfl (fv (hK 0 (memE rfl))), trivial⟩) rfl (fun wq hI => by exact run_int_neq (r := false) rfl rfl rfl rfl) ?_
        refine w_move (.inl rfl) (fun vs w hK => ⟨wants_none rfl, rho_in rfl (fv (hK 1 (memE rfl)))⟩) ?_
        refine w_val [(12, _)] (.agg [Value.slice Ab2 nb2 cb2, .slice Aw2 nw2 cw2].toArray) (fun vs w hK => ⟨wants_g rfl (fv (hK 2 (memE rfl))), rho_out rfl rfl, trivial⟩) rfl (fun wq hI => by exact op_load_at rfl ⟨b11, 0, none⟩ [.slice Ab2 nb2 cb2, .slice Aw2 nw2 cw2] rfl (box_cells (box_stays HX11.out hI)) Try.underlying36 rfl info36) ?_
        refine w_callF (FW.of (isSts rs) (fun _ _ _ h hb => isSts_below h hb)) [(67, _)] _ (by decide) (fun vs w hK => ⟨wants_g rfl (fv (hK 2 (memE rfl))), rho_in rfl (fv (hK 3 (memE rfl))), trivial⟩) rfl rfl Try.func21 (by kernel_rfl) rfl (fun wq hI => (all_page _ _ rs wq w9.heap.size HGD2.out (gr_below HBV11.out hI) (gr_below HWV11.out hI)).mono fun e w' ⟨v, he, ho, hb⟩ => ⟨v, he, hb, isSts_own ho⟩) (margs rfl) ?_
        refine w_move (.inl rfl) (fun vs w hK => ⟨wants_g rfl (fv (hK 2 (memE rfl))), rho_out rfl rfl⟩) ?_
        refine w_any (.val (.bool false)) (by decide) (fun vs wq hI hK => ?_) ?_
        · obtain ⟨Aq, nq, cq, e1, hsq⟩ : ∃ A n c, vs 4 = .slice A n c ∧ Sts encP 2 wq A n rs := hK 4 (memE rfl)
          refine ob_call [(68, .slice Aq nq cq), (69, .slice A n c)] _ (wants_g rfl (fv (hK 2 (memE rfl)))) ⟨rho_in rfl e1, rho_in rfl (fv (hK 5 (memE rfl))), trivial⟩ rfl rfl Try.func20 (by kernel_rfl) rfl (margs rfl) ((same_any Aq nq cq A n c rs ps wq hsq (sts_below HST.out (below_then HB11.out HB11.out.size hI))).mono ?_)
          rintro e w' ⟨rfl, hb⟩
          exact ⟨_, rfl, hb, congrArg Value.bool HD2.out⟩
        refine w_val [(70, _)] _ (fun vs w hK => ⟨wants_g rfl (fv (hK 2 (memE rfl))), rho_in rfl (fv (hK 6 (memE rfl))), trivial⟩) rfl (fun wq hI => by simp only [execOp, Option.map_some, Option.map_none, lk_tmp, lk_const, lkT_cons, ↓reduceIte, Nat.reduceEqDiff]; go_simp; (first | done | rfl)) ?_
        refine w_pick (b := false) rfl (fun vs w hK => ⟨wants_none rfl, (rho_in rfl (fv (hK 2 (memE rfl)))), (rho_in rfl (fv (hK 7 (memE rfl))))⟩) ?_
        refine w_move (.inr rfl) (fun vs w hK => ⟨wants_none rfl, rho_in rfl (fv (hK 8 (memE rfl)))⟩) ?_
        refine w_end rfl rfl rfl (fun vs wq hI hF => ?_)
        simp only [List.reverse_cons, List.reverse_nil, List.nil_append, List.cons_append, finL_val, finL_of, finL_any, finL_app, finL_new, finL_gr, finL_row, finL_box, finL_nil, Act.put, List.setIfInBounds_toArray, List.set_cons_zero, List.set_cons_succ, Nat.reduceAdd]
        have HB12 := Lib.hid (below_then HB11.out HB11.out.size hI)
        clear hI hF
        go_wp2_with fail
        go_ret
        exact ⟨rfl, HB12.out⟩
      · refine plain_ (fun wq => Below w11.heap.size w11 wq) (fun _ => True) reg_5_15 rfl inv0 (fun _ _ _ _ => trivial) (Below.refl _ _) trivial ?_
        refine w_move (.inl rfl) (fun vs w hK => ⟨wants_none rfl, rho_out rfl rfl⟩) ?_
        refine w_val [(64, _)] (_) (fun vs w hK => ⟨wants_none rfl, rho_in rfl (fv (hK 0 (memE rfl))), trivial⟩) rfl (fun wq hI => by exact run_int_neq (r := true) rfl rfl rfl rfl) ?_
        refine w_move (.inl rfl) (fun vs w hK => ⟨wants_none rfl, rho_in rfl (fv (hK 1 (memE rfl)))⟩) ?_
        refine w_not (fun vs wq hK => wants_not rfl (fv (hK 2 (memE rfl)))) ?_
        refine w_not (fun vs wq hK => wants_not rfl (fv (hK 2 (memE rfl)))) ?_
        refine w_not (fun vs wq hK => wants_not rfl (fv (hK 2 (memE rfl)))) ?_
        refine w_not (fun vs wq hK => wants_not rfl (fv (hK 2 (memE rfl)))) ?_
        refine w_not (fun vs wq hK => wants_not rfl (fv (hK 2 (memE rfl)))) ?_
        refine w_pick (b := true) rfl (fun vs w hK => ⟨wants_none rfl, (rho_in rfl (fv (hK 2 (memE rfl)))), rho_const⟩) ?_
        refine w_move (.inr rfl) (fun vs w hK => ⟨wants_none rfl, rho_in rfl (fv (hK 8 (memE rfl)))⟩) ?_
        refine w_end rfl rfl rfl (fun vs wq hI hF => ?_)
        simp only [List.reverse_cons, List.reverse_nil, List.nil_append, List.cons_append, finL_val, finL_of, finL_any, finL_app, finL_new, finL_gr, finL_row, finL_box, finL_nil, Act.put, List.setIfInBounds_toArray, List.set_cons_zero, List.set_cons_succ, Nat.reduceAdd]
        have HB12 := Lib.hid (below_then HB11.out HB11.out.size hI)
        clear hI hF
        go_wp2_with fail
        go_ret
        exact ⟨rfl, HB12.out⟩
  · have hex : ex = 1 ∨ ex = 6 := by
      rcases hbad with ⟨h1, _, _⟩ | ⟨h1, _, _⟩
      · exact .inl h1
      · exact .inr h1
    have HEX : Hid ((((ex : Nat) : Int) != 0) = true) := Lib.hid (by rcases hex with rfl | rfl <;> rfl)
    have hex2 := HEX.out
    clear hbad hex
    go_wp2_with fail
    go_ret
    exact ⟨rfl, HB3.out⟩
end Go.Proofs.Ytnkeijdpjcclcaa.Pg
-- PageMakes
/- The walk of the law PageMakes: the page of any pairs, byte by byte, or why there is none. -/
namespace Go.Proofs.Ytnkeijdpjcclcaa.Pg
set_option linter.unusedVariables false
set_option linter.unusedSimpArgs false
open Go.Proofs.Ytnkeijdpjcclcaa.Kit Go.Proofs.Ytnkeijdpjcclcaa.Num Go.RowKit Go.Proofs.YtnkeijdpjcclcaaW.PrintWords Go.Proofs.YtnkeijdpjcclcaaW.PrintLast Go.Proofs.YtnkeijdpjcclcaaW.PrintMore NumPure
theorem put7_small_len {n : Nat} (h : n < 16384) : (put7 n).length ≤ 2 := put7_len 1 n (by omega)
/-- Few short pairs fit. -/
theorem fit_small {l : List PR} (hn : l.length ≤ 60) (hs : ∀ p ∈ l, p.1.length ≤ 300 ∧ p.2.length ≤ 300) : ∀ k, k ≤ l.length → (bodyAt l k).length ≤ 610 * k
  | 0, _ => by simp [bodyAt]
  | k + 1, hk => by
    have ih := fit_small hn hs k (by omega)
    have hlk : k < l.length := by omega
    have hp := hs l[k] (List.getElem_mem hlk)
    have h1 : nmAt l k = l[k].1 := by simp [nmAt, List.getD_eq_getElem?_getD, List.getElem?_eq_getElem hlk]
    have h2 : vlAt l k = l[k].2 := by simp [vlAt, List.getD_eq_getElem?_getD, List.getElem?_eq_getElem hlk]
    have h3 := same_name l k
    rw [h1] at h3
    have e : (rowOf (sameAt l k) (nmAt l k) (vlAt l k)).length ≤ 610 := by
      unfold rowOf
      rw [h1, h2]
      have a1 := put7_small_len (n := sameAt l k) (by omega)
      have a2 := put7_small_len (n := l[k].1.length - sameAt l k) (by omega)
      have a3 := put7_small_len (n := l[k].2.length) (by omega)
      simp only [List.length_append, List.length_drop]
      omega
    simp only [bodyAt, List.length_append]
    omega
theorem nn_small {ps : List PB} (h : ∀ p ∈ ps, p.1.size ≤ 300 ∧ p.2.size ≤ 300) : ∀ p ∈ nn ps, p.1.length ≤ 300 ∧ p.2.length ≤ 300 := by
  intro p hp
  obtain ⟨q, hq, rfl⟩ := List.mem_map.1 hp
  rw [numsOf_length, numsOf_length]
  exact h q hq
/-- The law's search for what two names have alike. -/
theorem front_bool (a b : ByteArray) (n : Nat) (h : n ≤ cmn (numsOf a) (numsOf b)) (X : Bool) (hX : n < a.size → n < b.size → X = decide (a.extract 0 (n + 1) = b.extract 0 (n + 1))) :
    ((decide ((n : Int) < (a.size : Int)) && decide ((n : Int) < (b.size : Int))) && X) = decide (n < cmn (numsOf a) (numsOf b)) := by
  have h1 := cmn_left (numsOf a) (numsOf b)
  have h2 := cmn_right (numsOf a) (numsOf b)
  rw [numsOf_length] at h1 h2
  by_cases ha : n < a.size
  · by_cases hb : n < b.size
    · have e1 : decide ((n : Int) < (a.size : Int)) = true := decide_eq_true (by omega)
      have e2 : decide ((n : Int) < (b.size : Int)) = true := decide_eq_true (by omega)
      rw [e1, e2, hX ha hb, Bool.true_and, Bool.true_and]
      have hf := cmn_front (numsOf a) (numsOf b) n h (by rw [numsOf_length]; exact ha) (by rw [numsOf_length]; exact hb)
      rw [decide_eq_decide, numsOf_eq, numsOf_extract, numsOf_extract, List.drop_zero, List.drop_zero, Nat.sub_zero]
      exact hf
    · have e2 : decide ((n : Int) < (b.size : Int)) = false := decide_eq_false (by omega)
      rw [e2, Bool.and_false, Bool.false_and, decide_eq_false (by omega)]
  · have e1 : decide ((n : Int) < (a.size : Int)) = false := decide_eq_false (by omega)
    rw [e1, Bool.false_and, Bool.false_and, decide_eq_false (by omega)]
/-- What a round of the law's loop holds. -/
structure MkS (w : World) (B : Nat) (nm vl : ByteArray) (want pl gv : Value) (xs ys gx : List Int) (W : World) : Prop where
  want_ : Gr .u8 5 W w.heap.size want xs
  pl_ : Gr .u8 5 W w.heap.size pl ys
  gv_ : Gr .u8 5 W w.heap.size gv gx
  a1 : Apart pl want
  a2 : Apart gv want
  a3 : Apart gv pl
  box : W.heap[B]? = some (.cells #[.string nm, .string vl] 30 (0, 0))
  nb : want.ownBlock ≠ some B
  np : pl.ownBlock ≠ some B
  bel : Below w.heap.size w W
theorem MkS.below {w W W' : World} {B : Nat} {nm vl : ByteArray} {want pl gv : Value} {xs ys gx : List Int} (h : MkS w B nm vl want pl gv xs ys gx W) (hb : Below W.heap.size W W') : MkS w B nm vl want pl gv xs ys gx W' :=
  ⟨gr_below h.want_ hb, gr_below h.pl_ hb, gr_below h.gv_ hb, h.a1, h.a2, h.a3, box_stays h.box hb, h.nb, h.np, below_then h.bel h.bel.size hb⟩
theorem MkS.next {w W W' : World} {B : Nat} {nm vl : ByteArray} {want want' pl gv : Value} {xs xs' ys gx : List Int} (h : MkS w B nm vl want pl gv xs ys gx W) (hA : AppB w W W' want want' xs') : MkS w B nm vl want' pl gv xs' ys gx W' :=
  ⟨hA.own, hA.fr.keep_gr h.pl_ h.a1, hA.fr.keep_gr h.gv_ h.a2, hA.fr.apart_gr h.pl_ h.a1, hA.fr.apart_gr h.gv_ h.a2, h.a3, by rw [hA.fr.grown.block B (mk_lt h.box) (Ne.symm h.nb)]; exact h.box, app_ne hA (mk_lt h.box) h.nb, h.np, hA.bel⟩
theorem MkS.next_pl {w W W' : World} {B : Nat} {nm vl : ByteArray} {want pl pl' gv : Value} {xs ys ys' gx : List Int} (h : MkS w B nm vl want pl gv xs ys gx W) (hA : AppB w W W' pl pl' ys') : MkS w B nm vl want pl' gv xs ys' gx W' :=
  ⟨hA.fr.keep_gr h.want_ h.a1.symm, hA.own, hA.fr.keep_gr h.gv_ h.a3, (hA.fr.apart_gr h.want_ h.a1.symm).symm, h.a2, hA.fr.apart_gr h.gv_ h.a3, by rw [hA.fr.grown.block B (mk_lt h.box) (Ne.symm h.np)]; exact h.box, h.nb, app_ne hA (mk_lt h.box) h.np, hA.bel⟩
theorem MkS.c0 {w W : World} {B : Nat} {nm vl : ByteArray} {want pl gv : Value} {xs ys gx : List Int} (h : MkS w B nm vl want pl gv xs ys gx W) : W.cell? ⟨B, 0, none⟩ = some (.string nm) := by simp [World.cell?, h.box]
theorem MkS.c1 {w W : World} {B : Nat} {nm vl : ByteArray} {want pl gv : Value} {xs ys gx : List Int} (h : MkS w B nm vl want pl gv xs ys gx W) : W.cell? ⟨B, 1, none⟩ = some (.string vl) := by simp [World.cell?, h.box]
theorem MkS.keeps {w W : World} {B : Nat} {nm vl : ByteArray} {want pl gv : Value} {xs ys gx : List Int} (h : MkS w B nm vl want pl gv xs ys gx W) : Keeps w B (.cells #[.string nm, .string vl] 30 (0, 0)) W := ⟨h.bel, h.box⟩
/-- The three rows between two rounds. -/
structure MkT (w : World) (want pl gv : Value) (xs ys gx : List Int) (W : World) : Prop where
  want_ : Gr .u8 5 W w.heap.size want xs
  pl_ : Gr .u8 5 W w.heap.size pl ys
  gv_ : Gr .u8 5 W w.heap.size gv gx
  a1 : Apart pl want
  a2 : Apart gv want
  a3 : Apart gv pl
  bel : Below w.heap.size w W
theorem MkS.mkt {w W : World} {B : Nat} {nm vl : ByteArray} {want pl gv : Value} {xs ys gx : List Int} (h : MkS w B nm vl want pl gv xs ys gx W) : MkT w want pl gv xs ys gx W := ⟨h.want_, h.pl_, h.gv_, h.a1, h.a2, h.a3, h.bel⟩
/-- What Make told, as the law uses it. -/
def Told (l : List PR) (ex : Nat) (gx : List Int) : Prop := (ex = 0 ∧ Good l l.length ∧ gx = pageOf l) ∨ (ex = 1 ∧ gx = [] ∧ ∃ k, k < l.length ∧ ¬ Ord l k)
theorem reg_3_15 : RegOk (opsOf Try.f3 15) [[], [0], [], [0, 1, 2]] [] [some 40, some 41, some 42, some 43] := regOk (by kernel_rfl)
theorem reg_3_17 : RegOk (opsOf Try.f3 17) [[], [], [1], [0, 1, 2], [0, 1, 2, 3], [0, 1, 2, 3, 4], [0, 1, 2, 3, 4], [0, 1, 2, 3, 4, 6], [0, 1, 2, 3, 4, 6, 7], [0, 1, 2, 3, 4, 5, 6, 7, 8], [0, 1, 2, 3, 4, 5, 6, 7, 8, 9], [0, 1, 2, 3, 4, 5, 6, 7, 8, 9, 10], [0, 1, 2, 3, 4, 5, 6, 7, 8, 9, 10, 11], [0, 1, 2, 3, 4, 5, 6, 7, 8, 9, 10, 11], [0, 1, 2, 3, 4, 5, 6, 7, 8, 9, 10, 11, 13], [0, 1, 2, 3, 4, 5, 6, 7, 8, 9, 10, 11, 12, 13, 14], [0, 1, 2, 3, 4, 5, 6, 7, 8, 9, 10, 11], [0, 1, 2, 3, 4, 5, 6, 7, 8, 9, 10, 11, 16], [0, 1, 2, 3, 4, 5, 6, 7, 8, 9, 10, 11], [0, 1, 2, 3, 4, 5, 6, 7, 8, 9, 10, 11, 18], [0, 1, 2, 3, 4, 5, 6, 7, 8, 9, 10, 11, 16, 17, 18, 19], [0, 1, 2, 3, 4, 5, 6, 7, 8, 9, 10, 11, 12, 13, 14, 15, 16, 17, 18, 19, 20], [0, 1, 2, 3, 4, 5, 6, 7, 8, 9, 10, 11, 12, 13, 14, 15, 16, 17, 18, 19, 20, 21]] [] [some 51, some 52, some 53, some 54, some 55, some 56, some 57, some 58, some 59, some 60, some 61, some 62, some 63, some 64, some 65, some 66, some 67, some 68, some 69, some 70, some 71, some 72, some 73] := regOk (by kernel_rfl)
theorem reg_3_19 : RegOk (opsOf Try.f3 19) [[], [0], [0, 1]] [] [some 76, some 77, some 78] := regOk (by kernel_rfl)
theorem reg_3_26 : RegOk (opsOf Try.f3 26) [[], [], [1], [], [1, 2, 3], [0, 1, 2, 3, 4], [], [6], [0, 1, 2, 3, 4, 5, 6, 7], [0, 1, 2, 3, 4, 5, 6, 7, 8]] [5, 8, 9] [some 104, some 105, some 106, some 107, some 108, some 109, some 110, some 111, some 112, some 5] := regOk (by kernel_rfl)
theorem reg_3_29 : RegOk (opsOf Try.f3 29) [[], [0], [0, 1], [0, 1, 2], [0, 1, 2, 3], [0, 1, 2], [0, 1, 2, 5], [0, 1, 2, 3, 4, 5, 6], [0, 1, 2, 3, 4, 5, 6, 7]] [] [some 120, some 121, some 122, some 123, some 124, some 125, some 126, some 127, some 128] := regOk (by kernel_rfl)
theorem reg_3_32 : RegOk (opsOf Try.f3 32) [[], [0], [0, 1], [0, 1, 2], [0, 1, 2, 3], [0, 1, 2], [0, 1, 2, 3, 4, 5], [0, 1, 2, 3, 4, 5, 6], [0, 1, 2, 3, 4, 5, 6, 7]] [] [some 134, some 135, some 136, some 137, some 138, some 139, some 140, some 141, some 2] := regOk (by kernel_rfl)
set_option maxRecDepth 20000 in
set_option maxHeartbeats 6400000 in
theorem makes_any (A : Option Addr) (n c : Nat) (ps : List PB) (w : World) (hl : Sts encP 2 w A n ps) (hnc : n ≤ c) (hok : ∀ z ∈ ps, okP z) :
    Calls Try.prog 3 #[.slice A n c] w fun e w' => e = .returned (.bool true) ∧ Below w.heap.size w w' := by
  have HST := Lib.hid hl
  have HLEN := Lib.hid hl.len
  have C0 := Lib.hid (head_any w)
  clear hl hok
  go_enter Try.func3, Try.ntmps3
  go_wp2_with fail
  refine C0.out.mono ?_
  rintro e w1 ⟨rfl, hb1⟩
  have HB1 := Lib.hid hb1
  have CB := Lib.hid (big_any A n c ps w1 (sts_below HST.out hb1))
  clear hb1 C0
  go_wp2_with fail
  refine CB.out.mono ?_
  rintro e w2 ⟨B, rfl, hb2, hsmall⟩
  have HB2 := Lib.hid (below_then HB1.out HB1.out.size hb2)
  have HSM := Lib.hid hsmall
  clear hb2 hsmall HB1 CB
  cases B with
  | true =>
    go_wp2_with fail
    go_ret
    exact ⟨rfl, HB2.out⟩
  | false =>
  obtain ⟨hn60, hsz⟩ := HSM.out rfl
  have CM := Lib.hid (make_any A n c ps w2 (sts_below HST.out HB2.out) (by omega) (fun p hp => by have := hsz p hp; omega))
  have HSZ := Lib.hid hsz
  have hfit : ∀ k, k < (nn ps).length → Fit (nn ps) k := fun k hk => by
    have := fit_small (l := nn ps) (by rw [nn_length, HLEN.out]; exact hn60) (nn_small hsz) (k + 1) hk
    rw [nn_length, HLEN.out] at hk
    unfold Fit
    omega
  have HFIT := Lib.hid hfit
  clear HSM hsz hfit
  go_wp2_with fail
  refine CM.out.mono ?_
  rintro e w3 ⟨hb3, gv, ex, rfl, hp⟩
  have htold : ∃ gx, Gr .u8 5 w3 w2.heap.size gv gx ∧ Told (nn ps) ex gx := by
    rcases hp with ⟨rfl, h1, h2⟩ | ⟨rfl, rfl, k, h1, _, h2⟩ | ⟨_, _, k, h1, _, _, h2⟩
    · exact ⟨_, h2, .inl ⟨rfl, h1, rfl⟩⟩
    · exact ⟨[], gr_nil _ _ _, .inr ⟨rfl, rfl, k, h1, h2⟩⟩
    · exact absurd (HFIT.out k h1) h2
  obtain ⟨gx, hgr, htd⟩ := htold
  obtain ⟨Ag, ng, cg, rfl, hgc, HLG, _, _⟩ := gr_open hgr
  have HTD := Lib.hid htd
  have HGR := Lib.hid hgr
  have HB3 := Lib.hid (below_then HB2.out HB2.out.size hb3)
  have hw23 : w.heap.size ≤ w2.heap.size := HB2.out.size
  clear hb3 hp hgr htd HB2 CM
  have hO1 := own_lit_ .u8 5 w3 w.heap.size [] 0 rfl HB3.out.size (by simp)
  have hba1 := below_alloc (Below.refl w3.heap.size w3) (.cells (nums .u8 []).toArray 5)
  have hO2 := own_lit_ .u8 5 (w3.alloc (.cells #[] 5)) w.heap.size [] 0 rfl (Nat.le_trans HB3.out.size hba1.size) (by simp)
  have hba2 := below_alloc (Below.refl (w3.alloc (.cells #[] 5)).heap.size (w3.alloc (.cells #[] 5))) (.cells (nums .u8 []).toArray 5)
  have hs1 : (w3.alloc (.cells #[] 5)).heap.size = w3.heap.size + 1 := by simp only [World.alloc, Array.size_push]
  have hglt : ∀ j, (Value.slice Ag ng cg).ownBlock = some j → j < w3.heap.size := fun j hj => gr_lt HGR.out j hj
  have h0 : MkT w (.slice (some ⟨w3.heap.size, 0, none⟩) 0 0) (.slice (some ⟨(w3.alloc (.cells #[] 5)).heap.size, 0, none⟩) 0 0) (.slice Ag ng cg) [] [] gx ((w3.alloc (.cells #[] 5)).alloc (.cells #[] 5)) :=
    ⟨gr_below (.inl hO1) hba2, .inl hO2, gr_lower (gr_below (gr_below HGR.out hba1) hba2) hw23, ⟨.inr (.inr (by rw [hs1]; simp [Value.ownBlock]))⟩, ⟨by
      cases hq : (Value.slice Ag ng cg).ownBlock with
      | none => exact .inl rfl
      | some j => exact .inr (.inr (by have := hglt j hq; simp [Value.ownBlock]; omega))⟩, ⟨by
      cases hq : (Value.slice Ag ng cg).ownBlock with
      | none => exact .inl rfl
      | some j => exact .inr (.inr (by have := hglt j hq; rw [hs1]; simp [Value.ownBlock]; omega))⟩, below_then HB3.out HB3.out.size (below_then hba1 hba1.size hba2)⟩
  rw [hs1] at h0
  have H0 := Lib.hid h0
  clear hO1 hO2 hba1 hba2 hs1 hglt h0
  go_wp2_with fail
  go_loopw [5, 6, 7, 27] (fun want pl cn i wr => ∃ (k : Nat), k ≤ n ∧ i = .int .i64 k ∧ cn = .int .i64 (cntAt k : Nat) ∧ Hid (Good (nn ps) k) ∧ Hid (MkT w want pl (.slice Ag ng cg) (bodyAt (nn ps) k) (wholeAt (nn ps) k) gx wr)) (fun _ _ _ i _ => n - (intOf i).toNat)
  case atStart => exact ⟨0, by omega, rfl, rfl, Lib.hid (fun j hj => absurd hj (by omega)), H0⟩
  case round =>
    obtain ⟨k, hk, rfl, rfl, HGood, HM⟩ := hrel
    by_cases hlt : k < n
    · have t1 : decide ((k : Int) < (n : Int)) = true := decide_eq_true (by omega)
      have hstb := sts_below HST.out HM.out.bel
      obtain ⟨ad, rfl, hc⟩ := hstb.row (by omega)
      obtain ⟨⟨nm, vl⟩, hp⟩ : ∃ p : PB, ps[k]? = some p := ⟨_, List.getElem?_eq_getElem (by rw [HLEN.out]; exact hlt)⟩
      have hcell := hc k _ hp
      have hgd : ps.getD k default = (nm, vl) := by rw [List.getD_eq_getElem?_getD, hp]; rfl
      have HNm : Hid (nmAt (nn ps) k = numsOf nm) := Lib.hid (by rw [nm_nn, hgd])
      have HVl : Hid (vlAt (nn ps) k = numsOf vl) := Lib.hid (by rw [vl_nn, hgd])
      have hsm := HSZ.out _ (List.mem_of_getElem? hp)
      have hs1 : nm.size ≤ 300 := hsm.1
      have hs2 : vl.size ≤ 300 := hsm.2
      have hbf := body_fit HGood.out
      have HLast := Lib.hid (last_nn ps k)
      have HK := Lib.hid hlt
      have hprev : ∀ k0, k = k0 + 1 → wr.cell? (ad.add (k0 * 2)) = some (.string (lastS ps k)) := fun k0 hk0 => by
        have hlt0 : k0 < ps.length := by rw [HLEN.out]; omega
        have h1 := hc k0 _ (List.getElem?_eq_getElem hlt0) 0 _ rfl
        rw [Addr.add_add, Nat.add_zero] at h1
        rw [h1, hk0, lastS_succ, List.getD_eq_getElem?_getD, List.getElem?_eq_getElem hlt0]
        rfl
      have hlsz : (lastS ps k).size ≤ 300 := by
        unfold lastS
        split
        · exact Nat.zero_le _
        · rw [List.getD_eq_getElem?_getD]
          cases hq : ps[k - 1]? with
          | none => exact Nat.zero_le _
          | some q => exact (HSZ.out q (List.mem_of_getElem? hq)).1
      generalize lastS ps k = la at HLast hprev hlsz
      have HPrev := Lib.hid hprev
      clear hc hp hgd hsm hstb hprev
      go_upto_region 12 with (first
        | (refine wpList_index_st rfl 22 _ _ rfl sts22 rfl rfl rfl hlt ?_)
        | (refine wpList_load_at rfl 30 _ rfl _ [.string nm, .string vl] rfl hcell Try.underlying30 rfl info30 ?_)
        | (refine wpList_store_box rfl 30 (.tmp 9) (.tmp 31) rfl wr.heap.size [.string nm, .string vl] rfl rfl (heap_alloc_new wr _) rfl info30 rfl ?_; intro w4 hs4; have HS4 := Lib.hid hs4; clear hs4))
      have hb4 : Below wr.heap.size wr w4 := HS4.out.then_ (below_alloc (Below.refl _ _) _) (Nat.le_refl _)
      have HS : Hid (MkS w wr.heap.size nm vl u5 u6 (.slice Ag ng cg) (bodyAt (nn ps) k) (wholeAt (nn ps) k) gx w4) := Lib.hid ⟨gr_below HM.out.want_ hb4, gr_below HM.out.pl_ hb4, gr_below HM.out.gv_ hb4, HM.out.a1, HM.out.a2, HM.out.a3, HS4.out.at_, fun h => by have := gr_lt HM.out.want_ _ h; omega, fun h => by have := gr_lt HM.out.pl_ _ h; omega, below_then HM.out.bel HM.out.bel.size hb4⟩
      have HPrev4 : Hid (∀ k0, k = k0 + 1 → w4.cell? (ad.add (k0 * 2)) = some (.string la)) := Lib.hid (fun k0 hk0 => below_cell hb4 (HPrev.out k0 hk0))
      clear HM HS4 hb4 HPrev hcell
      generalize wr.heap.size = B at HS ⊢
      obtain ⟨Ab, nb, cb, rfl, hbc, HLb, hbm, _⟩ := gr_open HS.out.want_
      have hnb : (bodyAt (nn ps) k).length = nb := HLb.out
      have hcq : cntAt k ≤ 100 := by unfold cntAt; omega
      have hwl := whole_length (nn ps) k
      have hwnb : IntKind.u64.wrap (nb : Int) = (nb : Int) := u64_nat nb (by omega)
      have hwV : IntKind.u64.wrap (vl.size : Int) = (vl.size : Int) := u64_nat vl.size (by omega)
      have HWS : Hid (wholeAt (nn ps) (k + 1) = if k % 8 = 0 then wholeAt (nn ps) k ++ le (bodyAt (nn ps) k).length 4 else wholeAt (nn ps) k) := Lib.hid rfl
      have HBS : Hid (bodyAt (nn ps) (k + 1) = bodyAt (nn ps) k ++ rowOf (sameAt (nn ps) k) (nmAt (nn ps) k) (vlAt (nn ps) k)) := Lib.hid rfl
      by_cases hk0 : k = 0
      · have t2 : decide (0 < k) = false := decide_eq_false (by omega)
        have HOrd : Hid (Ord (nn ps) k) := Lib.hid (.inl hk0)
        have HE : Hid (k % 8 = 0) := Lib.hid (by rw [hk0])
        clear hk0 HPrev4
        go_upto_region 19 with fail
        refine plain_ (fun wq => Below w4.heap.size w4 wq) (fun _ => True) reg_3_19 rfl inv0 (fun _ _ _ _ => trivial) (Below.refl _ _) trivial ?_
        refine w_move (.inl rfl) (fun vs w hK => ⟨wants_none rfl, rho_out rfl rfl⟩) ?_
        refine w_val [(76, _)] (_) (fun vs w hK => ⟨wants_none rfl, rho_in rfl (fv (hK 0 (memE rfl))), trivial⟩) rfl (fun wq hI => by exact op_rem rfl rfl rfl (by decide) (rem_nat k 8)) ?_
        refine w_val [(77, _)] (_) (fun vs w hK => ⟨wants_none rfl, rho_in rfl (fv (hK 1 (memE rfl))), trivial⟩) rfl (fun wq hI => by exact run_int_eql (r := true) rfl rfl rfl (by rw [HE.out]; rfl)) ?_
        refine w_end rfl rfl rfl (fun vs wq hI hF => ?_)
        simp only [List.reverse_cons, List.reverse_nil, List.nil_append, List.cons_append, finL_val, finL_of, finL_any, finL_app, finL_new, finL_gr, finL_row, finL_box, finL_nil, Act.put, List.setIfInBounds_toArray, List.set_cons_zero, List.set_cons_succ, Nat.reduceAdd]
        have HS4 := Lib.hid (HS.out.below hI)
        clear hI hF HS
        obtain ⟨w5, rfl⟩ : ∃ w5 : World, w5 = wq := ⟨_, rfl⟩
        have HSame : Hid (sameAt (nn ps) k = 0) := Lib.hid (by unfold sameAt; rw [if_pos HE.out])
        go_wp2_with fail
        refine (putLittle_any nb 4 (by omega) u6 (wholeAt (nn ps) k) w _ HS4.out.pl_ HS4.out.bel (by omega)).mono ?_
        rintro e w7 ⟨v7, rfl, hA⟩
        have hwe : wholeAt (nn ps) k ++ le nb (min (4 : Int).toNat 8) = wholeAt (nn ps) (k + 1) := by
          rw [HWS.out, if_pos HE.out, hnb]
          rfl
        have HS5 : Hid (MkS w B nm vl (.slice Ab nb cb) v7 (.slice Ag ng cg) (bodyAt (nn ps) k) (wholeAt (nn ps) (k + 1)) gx w7) := Lib.hid (hwe ▸ HS4.out.next_pl hA)
        clear hA hwe HS4
        generalize hxs : bodyAt (nn ps) k = xs at HS5 hnb hbf HBS
        have h10 := put7_len10 (n := 0) (by omega)
        have h11 := put7_len10 (n := nm.size) (by omega)
        have h12 := put7_len10 (n := vl.size) (by omega)
        have hwS : IntKind.u64.wrap ((0 : Nat) : Int) = ((0 : Nat) : Int) := u64_nat 0 (by omega)
        have hwD : IntKind.i64.wrap ((nm.size : Int) - ((0 : Nat) : Int)) = ((nm.size : Nat) : Int) := by rw [i64_id (by omega) (by omega)]; omega
        have hwD2 : IntKind.u64.wrap ((nm.size : Nat) : Int) = ((nm.size : Nat) : Int) := u64_nat nm.size (by omega)
        have hSn : 0 ≤ nm.size := by omega
        have hES : (nm.extract 0 nm.size).size = nm.size := by simp
        have HRow : Hid (xs ++ put7 0 ++ put7 nm.size ++ put7 vl.size ++ numsOf (nm.extract 0 nm.size) ++ numsOf vl = bodyAt (nn ps) (k + 1)) := Lib.hid (by
          rw [HBS.out, HSame.out, HNm.out, HVl.out, rowOf, numsOf_length, numsOf_length, numsOf_extract, List.take_of_length_le (by rw [List.length_drop, numsOf_length]; exact Nat.le_refl _)]
          simp only [List.append_assoc, Nat.sub_zero])
        clear hxs
        go_wp2_with fail
        refine (put_any 0 (by omega) (.slice Ab nb cb) xs w _ HS5.out.want_ HS5.out.bel (by omega)).mono ?_
        rintro e w8 ⟨v8, rfl, hA⟩
        have HS6 := Lib.hid (HS5.out.next hA)
        have hc0 := HS6.out.c0
        clear hA HS5
        go_wp2_with fail
        refine (put_any nm.size (by omega) v8 (xs ++ put7 0) w _ HS6.out.want_ HS6.out.bel (by rw [List.length_append]; omega)).mono ?_
        rintro e w9 ⟨v9, rfl, hA⟩
        have HS7 := Lib.hid (HS6.out.next hA)
        have hc1 := HS7.out.c1
        clear hA HS6 hc0
        go_wp2_with fail
        refine (put_any vl.size (by omega) v9 (xs ++ put7 0 ++ put7 nm.size) w _ HS7.out.want_ HS7.out.bel (by rw [List.length_append, List.length_append]; omega)).mono ?_
        rintro e w10 ⟨v10, rfl, hA⟩
        have HS8 := Lib.hid (HS7.out.next hA)
        clear hA HS7 hc1
        have hl5 : (xs ++ put7 0 ++ put7 nm.size ++ put7 vl.size).length ≤ 262144 + 30 := by
          simp only [List.length_append]
          omega
        generalize xs ++ put7 0 ++ put7 nm.size ++ put7 vl.size = xs5 at HS8 HRow hl5
        have HJ0 := Lib.hid (app_start HS8.out.want_ HS8.out.bel (below_drew (Below.refl _ _)) : AppB w w10 w10.drew v10 v10 xs5)
        have HI0 := Lib.hid (HS8.out.below (below_drew (Below.refl _ _))).keeps
        have HG := Lib.hid (mk_lt HS8.out.box)
        go_upto_region 26 with fail
        refine draws_ (Keeps w B (.cells #[.string nm, .string vl] 30 (0, 0))) (fun w' => AppB w w10 w' v10 v10 xs5) (by kernel_rfl) reg_3_26 rfl keeps_below app_st HI0.out HJ0.out ?_
        refine w_move (.inl rfl) (fun vs w hK => ⟨wants_none rfl, rho_out rfl rfl⟩) ?_
        refine w_val [(9, _)] _ (fun vs w hK => ⟨wants_none rfl, rho_out rfl rfl, trivial⟩) rfl (fun wq hI => by simp only [execOp, Option.map_some, Option.map_none, lk_tmp, lk_const, lkT_cons, ↓reduceIte, Nat.reduceEqDiff]; go_simp; (first | done | rfl)) ?_
        refine w_val [(105, _)] (_) (fun vs w hK => ⟨wants_none rfl, rho_in rfl (fv (hK 1 (memE rfl))), trivial⟩) rfl (fun wq hI => by exact run_load_cell (ad := ⟨B, 0, none⟩) (v := .string nm) rfl rfl rfl Try.underlying9 rfl (by simp [World.cell?, hI.at_])) ?_
        refine w_move (.inl rfl) (fun vs w hK => ⟨wants_none rfl, rho_out rfl rfl⟩) ?_
        refine w_val [(106, _), (107, _)] (_) (fun vs w hK => ⟨wants_none rfl, rho_in rfl (fv (hK 2 (memE rfl))), rho_in rfl (fv (hK 3 (memE rfl))), trivial⟩) rfl (fun wq hI => by exact op_cut_from (a := 0) rfl Try.underlying9 rfl rfl rfl hSn rfl) ?_
        refine w_lin (FW.app .u8 5 w w10 v10 (xs5 ++ numsOf (nm.extract 0 nm.size))) (by decide) (fun vs wq hI hJ hK => ?_) ?_
        · have hA := hJ (by decide) (by decide)
          obtain ⟨v1, w1, hrun, hA1⟩ := gr_run_str tb rfl Try.underlying9 25 (nm.extract 0 nm.size) hA.own hA.bel.size (by rw [hES]; omega)
          have hA2 := app_of_run hA hA1
          exact ob_run [(104, _), (108, _)] (wants_none rfl) ⟨rho_in rfl (fv (hK 0 (memE rfl))), rho_in rfl (fv (hK 4 (memE rfl))), trivial⟩ rfl (run_append_op rfl rfl rfl hrun) ⟨keeps_fr hI hA2.bel hA1.fr (app_ne hA HG.out HS8.out.nb), hA2⟩
        refine w_val [(9, _)] _ (fun vs w hK => ⟨wants_none rfl, rho_out rfl rfl, trivial⟩) rfl (fun wq hI => by simp only [execOp, Option.map_some, Option.map_none, lk_tmp, lk_const, lkT_cons, ↓reduceIte, Nat.reduceEqDiff]; go_simp; (first | done | rfl)) ?_
        refine w_val [(110, _)] (_) (fun vs w hK => ⟨wants_none rfl, rho_in rfl (fv (hK 6 (memE rfl))), trivial⟩) rfl (fun wq hI => by exact run_load_cell (ad := ⟨B, 1, none⟩) (v := .string vl) rfl rfl rfl Try.underlying9 rfl (by simp [World.cell?, hI.at_])) ?_
        refine w_lin (FW.app .u8 5 w w10 v10 (xs5 ++ numsOf (nm.extract 0 nm.size) ++ numsOf vl)) (by decide) (fun vs wq hI hJ hK => ?_) ?_
        · have hA : AppB w w10 wq v10 (vs 5) (xs5 ++ numsOf (nm.extract 0 nm.size)) := hK 5 (memE rfl)
          obtain ⟨v1, w1, hrun, hA1⟩ := gr_run_str tb rfl Try.underlying9 25 vl hA.own hA.bel.size (by rw [List.length_append, numsOf_length, hES]; omega)
          have hA2 := app_of_run hA hA1
          exact ob_run [(109, _), (111, _)] (wants_none rfl) ⟨rho_in rfl rfl, rho_in rfl (fv (hK 7 (memE rfl))), trivial⟩ rfl (run_append_op rfl rfl rfl hrun) ⟨keeps_fr hI hA2.bel hA1.fr (app_ne hA HG.out HS8.out.nb), hA2⟩
        refine w_lin (FW.app .u8 5 w w10 v10 (xs5 ++ numsOf (nm.extract 0 nm.size) ++ numsOf vl)) (by decide) (fun vs wq hI hJ hK => ?_) ?_
        · exact ob_copy (.inr rfl) (wants_none rfl) (rho_in rfl rfl) ⟨hI, hK 8 (memE rfl)⟩
        refine w_end rfl rfl rfl (fun vs wq hI hF => ?_)
        simp only [List.reverse_cons, List.reverse_nil, List.nil_append, List.cons_append, finL_val, finL_of, finL_any, finL_app, finL_new, finL_gr, finL_row, finL_box, finL_nil, Act.put, List.setIfInBounds_toArray, List.set_cons_zero, List.set_cons_succ, Nat.reduceAdd]
        have hfin : AppB w w10 wq v10 (vs 9) (xs5 ++ numsOf (nm.extract 0 nm.size) ++ numsOf vl) := hF 9 (by decide) rfl
        rw [HRow.out] at hfin
        have HT9 := Lib.hid (HS8.out.next hfin).mkt
        clear hfin hF hI HS8 HJ0 HI0 HG HRow
        go_wp2_with fail
        go_roundw
        case rel => exact ⟨k + 1, by omega, by go_num, by rw [cnt_succ, if_pos HE.out]; go_num, Lib.hid (good_succ HGood.out HOrd.out (HFIT.out k (by rw [nn_length, HLEN.out]; exact HK.out))), HT9⟩
        case measure => simp [intOf]; omega
      · have t2 : decide ((0 : Int) < (k : Int)) = true := decide_eq_true (by omega)
        have t3 : decide (0 < k) = true := decide_eq_true (by omega)
        obtain ⟨k0, hk1⟩ : ∃ k0, k = k0 + 1 := ⟨k - 1, by omega⟩
        have hcl := HPrev4.out k0 hk1
        have hwk : IntKind.i64.wrap ((k : Int) - 1) = ((k0 : Nat) : Int) := by rw [i64_id (by omega) (by omega)]; omega
        have hlt0 : k0 < n := by omega
        obtain ⟨O, hO⟩ : ∃ O, decide (¬ Ord (nn ps) k) = O := ⟨_, rfl⟩
        have hob := ord_bool (nn ps) k la nm HLast.out HNm.out
        rw [hO, t2, Bool.true_and] at hob
        have HOB := Lib.hid hob
        have HO := Lib.hid hO
        clear hob hO hk1 hk0 HPrev4
        go_upto_region 15 with (first | (refine wpList_index_st rfl 22 _ _ rfl sts22 rfl rfl rfl hlt0 ?_))
        clear hcl hwk
        refine plain_ (fun wq => Below w4.heap.size w4 wq) (fun _ => True) reg_3_15 rfl inv0 (fun _ _ _ _ => trivial) (Below.refl _ _) trivial ?_
        refine w_val [(9, _)] _ (fun vs w hK => ⟨wants_none rfl, rho_out rfl rfl, trivial⟩) rfl (fun wq hI => by simp only [execOp, Option.map_some, Option.map_none, lk_tmp, lk_const, lkT_cons, ↓reduceIte, Nat.reduceEqDiff]; go_simp; (first | done | rfl)) ?_
        refine w_val [(40, _)] (_) (fun vs w hK => ⟨wants_none rfl, rho_in rfl (fv (hK 0 (memE rfl))), trivial⟩) rfl (fun wq hI => by exact run_load_cell (ad := ⟨B, 0, none⟩) (v := .string nm) rfl rfl rfl Try.underlying9 rfl (below_cell hI HS.out.c0)) ?_
        refine w_move (.inl rfl) (fun vs w hK => ⟨wants_none rfl, rho_out rfl rfl⟩) ?_
        refine w_val [(41, _), (42, _)] (_) (fun vs w hK => ⟨wants_none rfl, rho_in rfl (fv (hK 1 (memE rfl))), rho_in rfl (fv (hK 2 (memE rfl))), trivial⟩) rfl (fun wq hI => by exact op_str_leq (r := O) rfl rfl rfl HOB.out) ?_
        refine w_end rfl rfl rfl (fun vs wq hI hF => ?_)
        simp only [List.reverse_cons, List.reverse_nil, List.nil_append, List.cons_append, finL_val, finL_of, finL_any, finL_app, finL_new, finL_gr, finL_row, finL_box, finL_nil, Act.put, List.setIfInBounds_toArray, List.set_cons_zero, List.set_cons_succ, Nat.reduceAdd]
        have HS4 := Lib.hid (HS.out.below hI)
        clear hI hF HS HOB
        obtain ⟨w5, rfl⟩ : ∃ w5 : World, w5 = wq := ⟨_, rfl⟩
        cases O with
        | true =>
          have hno : ¬ Ord (nn ps) k := of_decide_eq_true HO.out
          have hbad : ex = 1 ∧ gx = [] := by
            rcases HTD.out with ⟨_, h1, _⟩ | ⟨h1, h2, _⟩
            · exact absurd (h1 k (by rw [nn_length, HLEN.out]; exact HK.out)).1 hno
            · exact ⟨h1, h2⟩
          obtain ⟨rfl, rfl⟩ := hbad
          obtain rfl : ng = 0 := HLG.out.symm
          have HBL := Lib.hid HS4.out.bel
          clear HTD HGR HLG H0 HS4 hno HO
          go_wp2_with fail
          go_ret
          exact ⟨rfl, HBL.out⟩
        | false =>
        have HOrd : Hid (Ord (nn ps) k) := Lib.hid (Decidable.of_not_not (of_decide_eq_false HO.out))
        clear HO
        have hml : cmn (numsOf la) (numsOf nm) ≤ nm.size := by rw [← numsOf_length]; exact cmn_right _ _
        have hml2 : cmn (numsOf la) (numsOf nm) ≤ la.size := by rw [← numsOf_length]; exact cmn_left _ _
        have HFB := Lib.hid (fun s h X hX => front_bool la nm s h X hX)
        have HSM : Hid (¬ k % 8 = 0 → sameAt (nn ps) k = cmn (numsOf la) (numsOf nm)) := Lib.hid (fun h => by unfold sameAt; rw [if_neg h, HLast.out, HNm.out])
        generalize cmn (numsOf la) (numsOf nm) = S at hml hml2 HFB HSM
        go_wp2_with fail
        go_loopw [10] (fun sm wr2 => ∃ s : Nat, s ≤ S ∧ sm = .int .i64 s ∧ Hid (MkS w B nm vl (.slice Ab nb cb) u6 (.slice Ag ng cg) (bodyAt (nn ps) k) (wholeAt (nn ps) k) gx wr2)) (fun sm _ => S + 1 - (intOf sm).toNat)
        case atStart => exact ⟨0, by omega, rfl, HS4⟩
        case round =>
          obtain ⟨s, hss, rfl, HI2⟩ := hrel
          obtain ⟨D, hD⟩ : ∃ D, decide (s < S) = D := ⟨_, rfl⟩
          have hfb := HFB.out s hss _ (fun _ _ => rfl)
          rw [hD] at hfb
          have HD := Lib.hid hfb
          have HDD := Lib.hid hD
          clear hfb hD
          go_upto_region 17 with fail
          refine draws_ (fun wq => Below wr.heap.size wr wq) (fun _ => True) (by kernel_rfl) reg_3_17 rfl inv0 (fun _ _ _ _ => trivial) (below_drew (Below.refl _ _)) trivial ?_
          refine w_move (.inl rfl) (fun vs w hK => ⟨wants_none rfl, rho_out rfl rfl⟩) ?_
          refine w_move (.inl rfl) (fun vs w hK => ⟨wants_none rfl, rho_out rfl rfl⟩) ?_
          refine w_val [(52, _)] (_) (fun vs w hK => ⟨wants_none rfl, rho_in rfl (fv (hK 1 (memE rfl))), trivial⟩) rfl (fun wq hI => by exact run_len_str rfl Try.underlying9 rfl rfl) ?_
          refine w_val [(51, _), (53, _)] (_) (fun vs w hK => ⟨wants_none rfl, rho_in rfl (fv (hK 0 (memE rfl))), rho_in rfl (fv (hK 2 (memE rfl))), trivial⟩) rfl (fun wq hI => by exact run_int_lss rfl rfl rfl rfl) ?_
          refine w_move (.inl rfl) (fun vs w hK => ⟨wants_none rfl, rho_in rfl (fv (hK 3 (memE rfl)))⟩) ?_
          refine w_moveG (.inl rfl) (fun vs w hK => wantsT rfl (fv (hK 4 (memE rfl)))) (fun hG vs w hK => (rho_out rfl rfl)) ?_
          refine w_valG [(9, _)] (_) (fun vs w hK => wantsT rfl (fv (hK 4 (memE rfl)))) (fun hG vs w hK => ⟨(rho_out rfl rfl), trivial⟩) rfl (fun hG wq hI => by simp only [execOp, Option.map_some, Option.map_none, lk_tmp, lk_const, lkT_cons, ↓reduceIte, Nat.reduceEqDiff]; go_simp; (first | done | rfl)) ?_
          refine w_valG [(57, _)] (_) (fun vs w hK => wantsT rfl (fv (hK 4 (memE rfl)))) (fun hG vs w hK => ⟨(rho_in rfl (fvg (hK 6 (memE rfl)) hG)), trivial⟩) rfl (fun hG wq hI => by exact run_load_cell (ad := ⟨B, 0, none⟩) (v := .string nm) rfl rfl rfl Try.underlying9 rfl (below_cell hI HI2.out.c0)) ?_
          refine w_valG [(58, _)] (_) (fun vs w hK => wantsT rfl (fv (hK 4 (memE rfl)))) (fun hG vs w hK => ⟨(rho_in rfl (fvg (hK 7 (memE rfl)) hG)), trivial⟩) rfl (fun hG wq hI => by exact run_len_str rfl Try.underlying9 rfl rfl) ?_
          refine w_valG [(56, _), (59, _)] (_) (fun vs w hK => wantsT rfl (fv (hK 4 (memE rfl)))) (fun hG vs w hK => ⟨(rho_in rfl (fvg (hK 5 (memE rfl)) hG)), (rho_in rfl (fvg (hK 8 (memE rfl)) hG)), trivial⟩) rfl (fun hG wq hI => by exact run_int_lss rfl rfl rfl rfl) ?_
          refine w_and rfl (fun vs w hK => wants_none rfl) (fun vs w hK => (rho_in rfl (fv (hK 4 (memE rfl))))) (fun hB vs w hK => (rho_in rfl (fvg (hK 9 (memE rfl)) hB))) ?_
          refine w_move (.inl rfl) (fun vs w hK => ⟨wants_none rfl, rho_in rfl (fv (hK 10 (memE rfl)))⟩) ?_
          refine w_moveG (.inl rfl) (fun vs w hK => wantsT rfl (fv (hK 11 (memE rfl)))) (fun hG vs w hK => (rho_out rfl rfl)) ?_
          refine w_moveG (.inl rfl) (fun vs w hK => wantsT rfl (fv (hK 11 (memE rfl)))) (fun hG vs w hK => (rho_out rfl rfl)) ?_
          refine w_valG [(64, _)] (_) (fun vs w hK => wantsT rfl (fv (hK 11 (memE rfl)))) (fun hG vs w hK => ⟨(rho_in rfl (fvg (hK 13 (memE rfl)) hG)), trivial⟩) rfl (fun hG wq hI => by exact run_int_add (c := ((s + 1 : Nat) : Int)) rfl rfl rfl (by rw [i64_id (by omega) (by omega)]; omega)) ?_
          refine w_valG [(63, _), (65, _)] (_) (fun vs w hK => wantsT rfl (fv (hK 11 (memE rfl)))) (fun hG vs w hK => ⟨(rho_in rfl (fvg (hK 12 (memE rfl)) hG)), (rho_in rfl (fvg (hK 14 (memE rfl)) hG)), trivial⟩) rfl (fun hG wq hI => by exact op_cut_to (b := s + 1) rfl Try.underlying9 rfl rfl rfl (by have h := hG; simp only [Bool.and_eq_true, decide_eq_true_eq] at h; omega) rfl) ?_
          refine w_valG [(9, _)] (_) (fun vs w hK => wantsT rfl (fv (hK 11 (memE rfl)))) (fun hG vs w hK => ⟨(rho_out rfl rfl), trivial⟩) rfl (fun hG wq hI => by simp only [execOp, Option.map_some, Option.map_none, lk_tmp, lk_const, lkT_cons, ↓reduceIte, Nat.reduceEqDiff]; go_simp; (first | done | rfl)) ?_
          refine w_valG [(67, _)] (_) (fun vs w hK => wantsT rfl (fv (hK 11 (memE rfl)))) (fun hG vs w hK => ⟨(rho_in rfl (fvg (hK 16 (memE rfl)) hG)), trivial⟩) rfl (fun hG wq hI => by exact run_load_cell (ad := ⟨B, 0, none⟩) (v := .string nm) rfl rfl rfl Try.underlying9 rfl (below_cell hI HI2.out.c0)) ?_
          refine w_moveG (.inl rfl) (fun vs w hK => wantsT rfl (fv (hK 11 (memE rfl)))) (fun hG vs w hK => (rho_out rfl rfl)) ?_
          refine w_valG [(69, _)] (_) (fun vs w hK => wantsT rfl (fv (hK 11 (memE rfl)))) (fun hG vs w hK => ⟨(rho_in rfl (fvg (hK 18 (memE rfl)) hG)), trivial⟩) rfl (fun hG wq hI => by exact run_int_add (c := ((s + 1 : Nat) : Int)) rfl rfl rfl (by rw [i64_id (by omega) (by omega)]; omega)) ?_
          refine w_valG [(68, _), (70, _)] (_) (fun vs w hK => wantsT rfl (fv (hK 11 (memE rfl)))) (fun hG vs w hK => ⟨(rho_in rfl (fvg (hK 17 (memE rfl)) hG)), (rho_in rfl (fvg (hK 19 (memE rfl)) hG)), trivial⟩) rfl (fun hG wq hI => by exact op_cut_to (b := s + 1) rfl Try.underlying9 rfl rfl rfl (by have h := hG; simp only [Bool.and_eq_true, decide_eq_true_eq] at h; omega) rfl) ?_
          refine w_valG [(66, _), (71, _)] (_) (fun vs w hK => wantsT rfl (fv (hK 11 (memE rfl)))) (fun hG vs w hK => ⟨(rho_in rfl (fvg (hK 15 (memE rfl)) hG)), (rho_in rfl (fvg (hK 20 (memE rfl)) hG)), trivial⟩) rfl (fun hG wq hI => by exact op_str_eql rfl rfl rfl rfl) ?_
          refine w_and rfl (fun vs w hK => wants_none rfl) (fun vs w hK => (rho_in rfl (fv (hK 11 (memE rfl))))) (fun hB vs w hK => (rho_in rfl (fvg (hK 21 (memE rfl)) hB))) ?_
          refine w_as (c' := .bool D) (congrArg Value.bool HD.out) ?_
          refine w_endM [false, false, false, false, false, false, false, false, false, false, false, false, false, false, false, false, false, false, false, false, false, false, true] rfl rfl rfl (fun vs wq hI hF => ?_)
          simp only [List.reverse_cons, List.reverse_nil, List.nil_append, List.cons_append, finL_val, finL_of, finL_any, finL_app, finL_new, finL_gr, finL_row, finL_box, finL_nil, Act.put, List.setIfInBounds_toArray, List.set_cons_zero, List.set_cons_succ, Nat.reduceAdd, maskF, finL_imp, Bool.not_false, Bool.not_true, Bool.true_and, Bool.false_and]
          have HI3 := Lib.hid (HI2.out.below hI)
          clear hI hF HI2 HD
          obtain ⟨w5, rfl⟩ : ∃ w5 : World, w5 = wq := ⟨_, rfl⟩
          cases D with
          | true =>
            have hlt2 : s < S := of_decide_eq_true HDD.out
            go_wp2_with fail
            go_roundw
            case rel => exact ⟨s + 1, by omega, by go_num, HI3⟩
            case measure => simp [intOf]; omega
          | false =>
            have hge2 : ¬ s < S := of_decide_eq_false HDD.out
            obtain rfl : s = S := by omega
            clear hge2 HDD HS4 HFB
            obtain ⟨E, hE⟩ : ∃ E, decide (k % 8 = 0) = E := ⟨_, rfl⟩
            have HE1 : Hid ((((k % 8 : Nat) : Int) == 0) = E) := Lib.hid (by
              rw [← hE]
              by_cases h : k % 8 = 0
              · rw [h]; rfl
              · rw [decide_eq_false h]; simp only [beq_eq_false_iff_ne]; omega)
            have HE2 := Lib.hid hE
            clear hE
            go_upto_region 19 with fail
            refine plain_ (fun wq => Below w5.heap.size w5 wq) (fun _ => True) reg_3_19 rfl inv0 (fun _ _ _ _ => trivial) (Below.refl _ _) trivial ?_
            refine w_move (.inl rfl) (fun vs w hK => ⟨wants_none rfl, rho_out rfl rfl⟩) ?_
            refine w_val [(76, _)] (_) (fun vs w hK => ⟨wants_none rfl, rho_in rfl (fv (hK 0 (memE rfl))), trivial⟩) rfl (fun wq hI => by exact op_rem rfl rfl rfl (by decide) (rem_nat k 8)) ?_
            refine w_val [(77, _)] (_) (fun vs w hK => ⟨wants_none rfl, rho_in rfl (fv (hK 1 (memE rfl))), trivial⟩) rfl (fun wq hI => by exact run_int_eql (r := E) rfl rfl rfl HE1.out) ?_
            refine w_end rfl rfl rfl (fun vs wq hI hF => ?_)
            simp only [List.reverse_cons, List.reverse_nil, List.nil_append, List.cons_append, finL_val, finL_of, finL_any, finL_app, finL_new, finL_gr, finL_row, finL_box, finL_nil, Act.put, List.setIfInBounds_toArray, List.set_cons_zero, List.set_cons_succ, Nat.reduceAdd]
            have HS4 := Lib.hid (HI3.out.below hI)
            clear hI hF HI3 HE1
            obtain ⟨w6, rfl⟩ : ∃ w6 : World, w6 = wq := ⟨_, rfl⟩
            cases E with
            | true =>
              have HE : Hid (k % 8 = 0) := Lib.hid (of_decide_eq_true HE2.out)
              clear HE2 HSM
              have HSame : Hid (sameAt (nn ps) k = 0) := Lib.hid (by unfold sameAt; rw [if_pos HE.out])
              go_wp2_with fail
              refine (putLittle_any nb 4 (by omega) u6 (wholeAt (nn ps) k) w _ HS4.out.pl_ HS4.out.bel (by omega)).mono ?_
              rintro e w7 ⟨v7, rfl, hA⟩
              have hwe : wholeAt (nn ps) k ++ le nb (min (4 : Int).toNat 8) = wholeAt (nn ps) (k + 1) := by
                rw [HWS.out, if_pos HE.out, hnb]
                rfl
              have HS5 : Hid (MkS w B nm vl (.slice Ab nb cb) v7 (.slice Ag ng cg) (bodyAt (nn ps) k) (wholeAt (nn ps) (k + 1)) gx w7) := Lib.hid (hwe ▸ HS4.out.next_pl hA)
              clear hA hwe HS4
              generalize hxs : bodyAt (nn ps) k = xs at HS5 hnb hbf HBS
              have h10 := put7_len10 (n := 0) (by omega)
              have h11 := put7_len10 (n := nm.size) (by omega)
              have h12 := put7_len10 (n := vl.size) (by omega)
              have hwS : IntKind.u64.wrap ((0 : Nat) : Int) = ((0 : Nat) : Int) := u64_nat 0 (by omega)
              have hwD : IntKind.i64.wrap ((nm.size : Int) - ((0 : Nat) : Int)) = ((nm.size : Nat) : Int) := by rw [i64_id (by omega) (by omega)]; omega
              have hwD2 : IntKind.u64.wrap ((nm.size : Nat) : Int) = ((nm.size : Nat) : Int) := u64_nat nm.size (by omega)
              have hSn : 0 ≤ nm.size := by omega
              have hES : (nm.extract 0 nm.size).size = nm.size := by simp
              have HRow : Hid (xs ++ put7 0 ++ put7 nm.size ++ put7 vl.size ++ numsOf (nm.extract 0 nm.size) ++ numsOf vl = bodyAt (nn ps) (k + 1)) := Lib.hid (by
                rw [HBS.out, HSame.out, HNm.out, HVl.out, rowOf, numsOf_length, numsOf_length, numsOf_extract, List.take_of_length_le (by rw [List.length_drop, numsOf_length]; exact Nat.le_refl _)]
                simp only [List.append_assoc, Nat.sub_zero])
              clear hxs
              go_wp2_with fail
              refine (put_any 0 (by omega) (.slice Ab nb cb) xs w _ HS5.out.want_ HS5.out.bel (by omega)).mono ?_
              rintro e w8 ⟨v8, rfl, hA⟩
              have HS6 := Lib.hid (HS5.out.next hA)
              have hc0 := HS6.out.c0
              clear hA HS5
              go_wp2_with fail
              refine (put_any nm.size (by omega) v8 (xs ++ put7 0) w _ HS6.out.want_ HS6.out.bel (by rw [List.length_append]; omega)).mono ?_
              rintro e w9 ⟨v9, rfl, hA⟩
              have HS7 := Lib.hid (HS6.out.next hA)
              have hc1 := HS7.out.c1
              clear hA HS6 hc0
              go_wp2_with fail
              refine (put_any vl.size (by omega) v9 (xs ++ put7 0 ++ put7 nm.size) w _ HS7.out.want_ HS7.out.bel (by rw [List.length_append, List.length_append]; omega)).mono ?_
              rintro e w10 ⟨v10, rfl, hA⟩
              have HS8 := Lib.hid (HS7.out.next hA)
              clear hA HS7 hc1
              have hl5 : (xs ++ put7 0 ++ put7 nm.size ++ put7 vl.size).length ≤ 262144 + 30 := by
                simp only [List.length_append]
                omega
              generalize xs ++ put7 0 ++ put7 nm.size ++ put7 vl.size = xs5 at HS8 HRow hl5
              have HJ0 := Lib.hid (app_start HS8.out.want_ HS8.out.bel (below_drew (Below.refl _ _)) : AppB w w10 w10.drew v10 v10 xs5)
              have HI0 := Lib.hid (HS8.out.below (below_drew (Below.refl _ _))).keeps
              have HG := Lib.hid (mk_lt HS8.out.box)
              go_upto_region 26 with fail
              refine draws_ (Keeps w B (.cells #[.string nm, .string vl] 30 (0, 0))) (fun w' => AppB w w10 w' v10 v10 xs5) (by kernel_rfl) reg_3_26 rfl keeps_below app_st HI0.out HJ0.out ?_
              refine w_move (.inl rfl) (fun vs w hK => ⟨wants_none rfl, rho_out rfl rfl⟩) ?_
              refine w_val [(9, _)] _ (fun vs w hK => ⟨wants_none rfl, rho_out rfl rfl, trivial⟩) rfl (fun wq hI => by simp only [execOp, Option.map_some, Option.map_none, lk_tmp, lk_const, lkT_cons, ↓reduceIte, Nat.reduceEqDiff]; go_simp; (first | done | rfl)) ?_
              refine w_val [(105, _)] (_) (fun vs w hK => ⟨wants_none rfl, rho_in rfl (fv (hK 1 (memE rfl))), trivial⟩) rfl (fun wq hI => by exact run_load_cell (ad := ⟨B, 0, none⟩) (v := .string nm) rfl rfl rfl Try.underlying9 rfl (by simp [World.cell?, hI.at_])) ?_
              refine w_move (.inl rfl) (fun vs w hK => ⟨wants_none rfl, rho_out rfl rfl⟩) ?_
              refine w_val [(106, _), (107, _)] (_) (fun vs w hK => ⟨wants_none rfl, rho_in rfl (fv (hK 2 (memE rfl))), rho_in rfl (fv (hK 3 (memE rfl))), trivial⟩) rfl (fun wq hI => by exact op_cut_from (a := 0) rfl Try.underlying9 rfl rfl rfl hSn rfl) ?_
              refine w_lin (FW.app .u8 5 w w10 v10 (xs5 ++ numsOf (nm.extract 0 nm.size))) (by decide) (fun vs wq hI hJ hK => ?_) ?_
              · have hA := hJ (by decide) (by decide)
                obtain ⟨v1, w1, hrun, hA1⟩ := gr_run_str tb rfl Try.underlying9 25 (nm.extract 0 nm.size) hA.own hA.bel.size (by rw [hES]; omega)
                have hA2 := app_of_run hA hA1
                exact ob_run [(104, _), (108, _)] (wants_none rfl) ⟨rho_in rfl (fv (hK 0 (memE rfl))), rho_in rfl (fv (hK 4 (memE rfl))), trivial⟩ rfl (run_append_op rfl rfl rfl hrun) ⟨keeps_fr hI hA2.bel hA1.fr (app_ne hA HG.out HS8.out.nb), hA2⟩
              refine w_val [(9, _)] _ (fun vs w hK => ⟨wants_none rfl, rho_out rfl rfl, trivial⟩) rfl (fun wq hI => by simp only [execOp, Option.map_some, Option.map_none, lk_tmp, lk_const, lkT_cons, ↓reduceIte, Nat.reduceEqDiff]; go_simp; (first | done | rfl)) ?_
              refine w_val [(110, _)] (_) (fun vs w hK => ⟨wants_none rfl, rho_in rfl (fv (hK 6 (memE rfl))), trivial⟩) rfl (fun wq hI => by exact run_load_cell (ad := ⟨B, 1, none⟩) (v := .string vl) rfl rfl rfl Try.underlying9 rfl (by simp [World.cell?, hI.at_])) ?_
              refine w_lin (FW.app .u8 5 w w10 v10 (xs5 ++ numsOf (nm.extract 0 nm.size) ++ numsOf vl)) (by decide) (fun vs wq hI hJ hK => ?_) ?_
              · have hA : AppB w w10 wq v10 (vs 5) (xs5 ++ numsOf (nm.extract 0 nm.size)) := hK 5 (memE rfl)
                obtain ⟨v1, w1, hrun, hA1⟩ := gr_run_str tb rfl Try.underlying9 25 vl hA.own hA.bel.size (by rw [List.length_append, numsOf_length, hES]; omega)
                have hA2 := app_of_run hA hA1
                exact ob_run [(109, _), (111, _)] (wants_none rfl) ⟨rho_in rfl rfl, rho_in rfl (fv (hK 7 (memE rfl))), trivial⟩ rfl (run_append_op rfl rfl rfl hrun) ⟨keeps_fr hI hA2.bel hA1.fr (app_ne hA HG.out HS8.out.nb), hA2⟩
              refine w_lin (FW.app .u8 5 w w10 v10 (xs5 ++ numsOf (nm.extract 0 nm.size) ++ numsOf vl)) (by decide) (fun vs wq hI hJ hK => ?_) ?_
              · exact ob_copy (.inr rfl) (wants_none rfl) (rho_in rfl rfl) ⟨hI, hK 8 (memE rfl)⟩
              refine w_end rfl rfl rfl (fun vs wq hI hF => ?_)
              simp only [List.reverse_cons, List.reverse_nil, List.nil_append, List.cons_append, finL_val, finL_of, finL_any, finL_app, finL_new, finL_gr, finL_row, finL_box, finL_nil, Act.put, List.setIfInBounds_toArray, List.set_cons_zero, List.set_cons_succ, Nat.reduceAdd]
              have hfin : AppB w w10 wq v10 (vs 9) (xs5 ++ numsOf (nm.extract 0 nm.size) ++ numsOf vl) := hF 9 (by decide) rfl
              rw [HRow.out] at hfin
              have HT9 := Lib.hid (HS8.out.next hfin).mkt
              clear hfin hF hI HS8 HJ0 HI0 HG HRow
              go_wp2_with fail
              go_roundw
              case rel => exact ⟨k + 1, by omega, by go_num, by rw [cnt_succ, if_pos HE.out]; go_num, Lib.hid (good_succ HGood.out HOrd.out (HFIT.out k (by rw [nn_length, HLEN.out]; exact HK.out))), HT9⟩
              case measure => simp [intOf]; omega
            | false =>
              have HE : Hid (¬ k % 8 = 0) := Lib.hid (of_decide_eq_false HE2.out)
              have HSame : Hid (sameAt (nn ps) k = s) := Lib.hid (HSM.out HE.out)
              clear HE2 HSM
              have HS5 : Hid (MkS w B nm vl (.slice Ab nb cb) u6 (.slice Ag ng cg) (bodyAt (nn ps) k) (wholeAt (nn ps) (k + 1)) gx w6) := Lib.hid (by rw [HWS.out, if_neg HE.out]; exact HS4.out)
              generalize hxs : bodyAt (nn ps) k = xs at HS5 hnb hbf HBS
              have h10 := put7_len10 (n := s) (by omega)
              have h11 := put7_len10 (n := (nm.size - s)) (by omega)
              have h12 := put7_len10 (n := vl.size) (by omega)
              have hwS : IntKind.u64.wrap ((s : Nat) : Int) = ((s : Nat) : Int) := u64_nat s (by omega)
              have hwD : IntKind.i64.wrap ((nm.size : Int) - ((s : Nat) : Int)) = (((nm.size - s) : Nat) : Int) := by rw [i64_id (by omega) (by omega)]; omega
              have hwD2 : IntKind.u64.wrap (((nm.size - s) : Nat) : Int) = (((nm.size - s) : Nat) : Int) := u64_nat (nm.size - s) (by omega)
              have hSn : s ≤ nm.size := by omega
              have hES : (nm.extract s nm.size).size = (nm.size - s) := by simp
              have HRow : Hid (xs ++ put7 s ++ put7 (nm.size - s) ++ put7 vl.size ++ numsOf (nm.extract s nm.size) ++ numsOf vl = bodyAt (nn ps) (k + 1)) := Lib.hid (by
                rw [HBS.out, HSame.out, HNm.out, HVl.out, rowOf, numsOf_length, numsOf_length, numsOf_extract, List.take_of_length_le (by rw [List.length_drop, numsOf_length]; exact Nat.le_refl _)]
                simp only [List.append_assoc, Nat.sub_zero])
              clear hxs
              go_wp2_with fail
              refine (put_any s (by omega) (.slice Ab nb cb) xs w _ HS5.out.want_ HS5.out.bel (by omega)).mono ?_
              rintro e w8 ⟨v8, rfl, hA⟩
              have HS6 := Lib.hid (HS5.out.next hA)
              have hc0 := HS6.out.c0
              clear hA HS5
              go_wp2_with fail
              refine (put_any (nm.size - s) (by omega) v8 (xs ++ put7 s) w _ HS6.out.want_ HS6.out.bel (by rw [List.length_append]; omega)).mono ?_
              rintro e w9 ⟨v9, rfl, hA⟩
              have HS7 := Lib.hid (HS6.out.next hA)
              have hc1 := HS7.out.c1
              clear hA HS6 hc0
              go_wp2_with fail
              refine (put_any vl.size (by omega) v9 (xs ++ put7 s ++ put7 (nm.size - s)) w _ HS7.out.want_ HS7.out.bel (by rw [List.length_append, List.length_append]; omega)).mono ?_
              rintro e w10 ⟨v10, rfl, hA⟩
              have HS8 := Lib.hid (HS7.out.next hA)
              clear hA HS7 hc1
              have hl5 : (xs ++ put7 s ++ put7 (nm.size - s) ++ put7 vl.size).length ≤ 262144 + 30 := by
                simp only [List.length_append]
                omega
              generalize xs ++ put7 s ++ put7 (nm.size - s) ++ put7 vl.size = xs5 at HS8 HRow hl5
              have HJ0 := Lib.hid (app_start HS8.out.want_ HS8.out.bel (below_drew (Below.refl _ _)) : AppB w w10 w10.drew v10 v10 xs5)
              have HI0 := Lib.hid (HS8.out.below (below_drew (Below.refl _ _))).keeps
              have HG := Lib.hid (mk_lt HS8.out.box)
              go_upto_region 26 with fail
              refine draws_ (Keeps w B (.cells #[.string nm, .string vl] 30 (0, 0))) (fun w' => AppB w w10 w' v10 v10 xs5) (by kernel_rfl) reg_3_26 rfl keeps_below app_st HI0.out HJ0.out ?_
              refine w_move (.inl rfl) (fun vs w hK => ⟨wants_none rfl, rho_out rfl rfl⟩) ?_
              refine w_val [(9, _)] _ (fun vs w hK => ⟨wants_none rfl, rho_out rfl rfl, trivial⟩) rfl (fun wq hI => by simp only [execOp, Option.map_some, Option.map_none, lk_tmp, lk_const, lkT_cons, ↓reduceIte, Nat.reduceEqDiff]; go_simp; (first | done | rfl)) ?_
              refine w_val [(105, _)] (_) (fun vs w hK => ⟨wants_none rfl, rho_in rfl (fv (hK 1 (memE rfl))), trivial⟩) rfl (fun wq hI => by exact run_load_cell (ad := ⟨B, 0, none⟩) (v := .string nm) rfl rfl rfl Try.underlying9 rfl (by simp [World.cell?, hI.at_])) ?_
              refine w_move (.inl rfl) (fun vs w hK => ⟨wants_none rfl, rho_out rfl rfl⟩) ?_
              refine w_val [(106, _), (107, _)] (_) (fun vs w hK => ⟨wants_none rfl, rho_in rfl (fv (hK 2 (memE rfl))), rho_in rfl (fv (hK 3 (memE rfl))), trivial⟩) rfl (fun wq hI => by exact op_cut_from (a := s) rfl Try.underlying9 rfl rfl rfl hSn rfl) ?_
              refine w_lin (FW.app .u8 5 w w10 v10 (xs5 ++ numsOf (nm.extract s nm.size))) (by decide) (fun vs wq hI hJ hK => ?_) ?_
              · have hA := hJ (by decide) (by decide)
                obtain ⟨v1, w1, hrun, hA1⟩ := gr_run_str tb rfl Try.underlying9 25 (nm.extract s nm.size) hA.own hA.bel.size (by rw [hES]; omega)
                have hA2 := app_of_run hA hA1
                exact ob_run [(104, _), (108, _)] (wants_none rfl) ⟨rho_in rfl (fv (hK 0 (memE rfl))), rho_in rfl (fv (hK 4 (memE rfl))), trivial⟩ rfl (run_append_op rfl rfl rfl hrun) ⟨keeps_fr hI hA2.bel hA1.fr (app_ne hA HG.out HS8.out.nb), hA2⟩
              refine w_val [(9, _)] _ (fun vs w hK => ⟨wants_none rfl, rho_out rfl rfl, trivial⟩) rfl (fun wq hI => by simp only [execOp, Option.map_some, Option.map_none, lk_tmp, lk_const, lkT_cons, ↓reduceIte, Nat.reduceEqDiff]; go_simp; (first | done | rfl)) ?_
              refine w_val [(110, _)] (_) (fun vs w hK => ⟨wants_none rfl, rho_in rfl (fv (hK 6 (memE rfl))), trivial⟩) rfl (fun wq hI => by exact run_load_cell (ad := ⟨B, 1, none⟩) (v := .string vl) rfl rfl rfl Try.underlying9 rfl (by simp [World.cell?, hI.at_])) ?_
              refine w_lin (FW.app .u8 5 w w10 v10 (xs5 ++ numsOf (nm.extract s nm.size) ++ numsOf vl)) (by decide) (fun vs wq hI hJ hK => ?_) ?_
              · have hA : AppB w w10 wq v10 (vs 5) (xs5 ++ numsOf (nm.extract s nm.size)) := hK 5 (memE rfl)
                obtain ⟨v1, w1, hrun, hA1⟩ := gr_run_str tb rfl Try.underlying9 25 vl hA.own hA.bel.size (by rw [List.length_append, numsOf_length, hES]; omega)
                have hA2 := app_of_run hA hA1
                exact ob_run [(109, _), (111, _)] (wants_none rfl) ⟨rho_in rfl rfl, rho_in rfl (fv (hK 7 (memE rfl))), trivial⟩ rfl (run_append_op rfl rfl rfl hrun) ⟨keeps_fr hI hA2.bel hA1.fr (app_ne hA HG.out HS8.out.nb), hA2⟩
              refine w_lin (FW.app .u8 5 w w10 v10 (xs5 ++ numsOf (nm.extract s nm.size) ++ numsOf vl)) (by decide) (fun vs wq hI hJ hK => ?_) ?_
              · exact ob_copy (.inr rfl) (wants_none rfl) (rho_in rfl rfl) ⟨hI, hK 8 (memE rfl)⟩
              refine w_end rfl rfl rfl (fun vs wq hI hF => ?_)
              simp only [List.reverse_cons, List.reverse_nil, List.nil_append, List.cons_append, finL_val, finL_of, finL_any, finL_app, finL_new, finL_gr, finL_row, finL_box, finL_nil, Act.put, List.setIfInBounds_toArray, List.set_cons_zero, List.set_cons_succ, Nat.reduceAdd]
              have hfin : AppB w w10 wq v10 (vs 9) (xs5 ++ numsOf (nm.extract s nm.size) ++ numsOf vl) := hF 9 (by decide) rfl
              rw [HRow.out] at hfin
              have HT9 := Lib.hid (HS8.out.next hfin).mkt
              clear hfin hF hI HS8 HJ0 HI0 HG HRow
              go_wp2_with fail
              go_roundw
              case rel => exact ⟨k + 1, by omega, by go_num, by rw [cnt_succ, if_neg HE.out], Lib.hid (good_succ HGood.out HOrd.out (HFIT.out k (by rw [nn_length, HLEN.out]; exact HK.out))), HT9⟩
              case measure => simp [intOf]; omega
    · obtain rfl : k = n := by omega
      have t1 : decide ((k : Int) < (k : Int)) = false := by simp
      have hgood : Good (nn ps) (nn ps).length := by rw [nn_length, HLEN.out]; exact HGood.out
      have hok : ex = 0 ∧ gx = pageOf (nn ps) := by
        rcases HTD.out with ⟨h1, _, h3⟩ | ⟨_, _, k0, h1, h2⟩
        · exact ⟨h1, h3⟩
        · exact absurd (hgood k0 h1).1 h2
      obtain ⟨rfl, rfl⟩ := hok
      have hbf := body_fit HGood.out
      have hcq : cntAt k ≤ 100 := by unfold cntAt; omega
      have hwl := whole_length (nn ps) k
      have HPE : Hid (bodyAt (nn ps) k ++ wholeAt (nn ps) k ++ le (cntAt k) (min (4 : Int).toNat 8) = pageOf (nn ps)) := Lib.hid (by unfold pageOf; rw [nn_length, HLEN.out]; rfl)
      have HIP : Hid (IsPage (pageOf (nn ps)) (nn ps)) := Lib.hid ⟨hgood, rfl⟩
      have HBY := Lib.hid (page_byte (nn_byte ps))
      have hgl : ng ≤ 300000 := by
        have h1 := page_length (nn ps)
        rw [nn_length, HLEN.out] at h1
        have := HLG.out
        omega
      obtain ⟨Aw, nw, cw, rfl, _, HLw, _, hrw⟩ := gr_open HM.out.pl_
      have hlw : (wholeAt (nn ps) k).length = nw := HLw.out
      have HRW := Lib.hid hrw
      have hwn : IntKind.u64.wrap ((cntAt k : Nat) : Int) = ((cntAt k : Nat) : Int) := u64_nat _ (by omega)
      generalize bodyAt (nn ps) k = xs at HM hbf HPE
      generalize wholeAt (nn ps) k = ys at HM HRW hwl hlw HPE
      generalize pageOf (nn ps) = pg at HM HPE HIP HBY HLG HGR HTD
      generalize cntAt k = q at hcq hwl HPE hwn ⊢
      clear hrw hgood HGR HTD H0 HGood HSZ HFIT hlt
      go_wp2_with (at_builtin; refine gapp_row tb rfl (.tmp 114) (.tmp 115) rfl rfl rfl HM.out.want_ HRW.out HM.out.bel HM.out.bel.size ?cL ?_; (case cL => omega); intro v1 w4 ho hb1 hs1 hf; have HO1 := Lib.hid ho; have HB4 := Lib.hid hb1; have HG1 := Lib.hid (hf.keep_gr HM.out.gv_ HM.out.a2); have HA1 := Lib.hid (hf.apart_gr HM.out.gv_ HM.out.a2); clear ho hb1 hs1 hf)
      refine (putLittle_any q 4 (by omega) v1 (xs ++ ys) w w4 HO1.out HB4.out (by rw [List.length_append]; omega)).mono ?_
      rintro e w5 ⟨v2, rfl, hA⟩
      have HG5 := Lib.hid (hA.fr.keep_gr HG1.out HA1.out)
      have HW5 := Lib.hid hA.own
      have HB5 := Lib.hid hA.bel
      obtain ⟨A2, n2, c2, rfl, _, _, _, hr2⟩ := gr_open hA.own
      have HR2 := Lib.hid hr2
      obtain ⟨A9, n9, c9, e9, _, _, _, hr9⟩ := gr_open HG5.out
      injection e9 with e91 e92 e93
      subst e91 e92 e93
      have HR5 := Lib.hid hr9
      clear hA hr2 hr9 HO1 HB4 HG1 HA1 HM HRW
      go_upto_region 29 with fail
      refine plain_ (fun wq => Below w5.heap.size w5 wq) (fun _ => True) reg_3_29 rfl inv0 (fun _ _ _ _ => trivial) (Below.refl _ _) trivial ?_
      refine w_move (.inl rfl) (fun vs w hK => ⟨wants_none rfl, rho_out rfl rfl⟩) ?_
      refine w_val [(120, _)] (_) (fun vs w hK => ⟨wants_none rfl, rho_in rfl (fv (hK 0 (memE rfl))), trivial⟩) rfl (fun wq hI => by exact run_int_neq (r := false) rfl rfl rfl rfl) ?_
      refine w_move (.inl rfl) (fun vs w hK => ⟨wants_none rfl, rho_in rfl (fv (hK 1 (memE rfl)))⟩) ?_
      refine w_move (.inl rfl) (fun vs w hK => ⟨wants_g rfl (fv (hK 2 (memE rfl))), rho_out rfl rfl⟩) ?_
      refine w_val [(123, _)] (_) (fun vs w hK => ⟨wants_g rfl (fv (hK 2 (memE rfl))), rho_in rfl (fv (hK 3 (memE rfl))), trivial⟩) rfl (fun wq hI => by exact run_conv_op rfl rfl (conv_rds (dst := 9) tb Try.underlying5 Try.underlying9 (rds_below HR5.out hI))) ?_
      refine w_move (.inl rfl) (fun vs w hK => ⟨wants_g rfl (fv (hK 2 (memE rfl))), rho_out rfl rfl⟩) ?_
      refine w_val [(125, _)] (_) (fun vs w hK => ⟨wants_g rfl (fv (hK 2 (memE rfl))), rho_in rfl (fv (hK 5 (memE rfl))), trivial⟩) rfl (fun wq hI => by exact run_conv_op rfl rfl (conv_rds (dst := 9) tb Try.underlying5 Try.underlying9 (rds_below HR2.out hI))) ?_
      refine w_val [(124, _), (126, _)] (_) (fun vs w hK => ⟨wants_g rfl (fv (hK 2 (memE rfl))), rho_in rfl (fv (hK 4 (memE rfl))), rho_in rfl (fv (hK 6 (memE rfl))), trivial⟩) rfl (fun wq hI => by exact run_neq_same rfl rfl rfl (by rw [HPE.out])) ?_
      refine w_pick (b := false) rfl (fun vs w hK => ⟨wants_none rfl, (rho_in rfl (fv (hK 2 (memE rfl)))), (rho_in rfl (fv (hK 7 (memE rfl))))⟩) ?_
      refine w_end rfl rfl rfl (fun vs wq hI hF => ?_)
      simp only [List.reverse_cons, List.reverse_nil, List.nil_append, List.cons_append, finL_val, finL_of, finL_any, finL_app, finL_new, finL_gr, finL_row, finL_box, finL_nil, Act.put, List.setIfInBounds_toArray, List.set_cons_zero, List.set_cons_succ, Nat.reduceAdd]
      have HB6 := Lib.hid (below_then HB5.out HB5.out.size hI)
      have CP := Lib.hid (parse_gen Ag ng cg pg wq (rds_below HR5.out hI) HBY.out hgc (by omega))
      clear hI hF HG5 HW5 HB5 HR2 HR5
      obtain ⟨w6, rfl⟩ : ∃ w6 : World, w6 = wq := ⟨_, rfl⟩
      go_wp2_with fail
      refine CP.out.mono ?_
      rintro e w7 ⟨hb7, bv, wv, ex, qs, rfl, hgd, hbv, hwv, hcase⟩
      obtain ⟨Ab, nbb, cb, rfl, _⟩ := gr_open hbv
      obtain ⟨Aw2, nw2, cw2, rfl, _⟩ := gr_open hwv
      rcases hcase with ⟨rfl, hip⟩ | ⟨_, _, hno⟩
      · obtain rfl : qs = ps := nn_inj (page_inj hip.1 HIP.out.1 (hip.2.trans HIP.out.2.symm))
        have HGD := Lib.hid hgd
        have HBV := Lib.hid hbv
        have HWV := Lib.hid hwv
        have HB7 := Lib.hid (below_then HB6.out HB6.out.size hb7)
        clear hb7 hgd hbv hwv hip HB6 CP
        go_upto_region 32 with (first | (refine wpList_store_box rfl 36 (.tmp 12) (.tmp 132) rfl w7.heap.size [.slice Ab nbb cb, .slice Aw2 nw2 cw2] rfl rfl (heap_alloc_new w7 _) rfl info36 rfl ?_; intro w8 hs8; have HS8 := Lib.hid hs8; clear hs8) | fail)
        have hb8 : Below w7.heap.size w7 w8 := HS8.out.then_ (below_alloc (Below.refl _ _) _) (Nat.le_refl _)
        have HX8 := Lib.hid HS8.out.at_
        have HBV8 := Lib.hid (gr_below HBV.out hb8)
        have HWV8 := Lib.hid (gr_below HWV.out hb8)
        have HB8 := Lib.hid (below_then HB7.out HB7.out.size hb8)
        clear hb8 HS8 HBV HWV HB7
        generalize w7.heap.size = b8 at HX8 ⊢
        refine plain_ (fun wq => Below w8.heap.size w8 wq) (fun _ => True) reg_3_32 rfl inv0 (fun _ _ _ _ => trivial) (Below.refl _ _) trivial ?_
        refine w_move (.inl rfl) (fun vs w hK => ⟨wants_none rfl, rho_out rfl rfl⟩) ?_
        refine w_val [(134, _)] (_) (fun vs w hK => ⟨wants_none rfl, rho_in rfl (fv (hK 0 (memE rfl))), trivial⟩) rfl (fun wq hI => by exact run_int_eql (r := true) rfl rfl rfl rfl) ?_
        refine w_move (.inl rfl) (fun vs w hK => ⟨wants_none rfl, rho_in rfl (fv (hK 1 (memE rfl)))⟩) ?_
        refine w_val [(12, _)] (.agg [Value.slice Ab nbb cb, .slice Aw2 nw2 cw2].toArray) (fun vs w hK => ⟨wants_g rfl (fv (hK 2 (memE rfl))), rho_out rfl rfl, trivial⟩) rfl (fun wq hI => by exact op_load_at rfl ⟨b8, 0, none⟩ [.slice Ab nbb cb, .slice Aw2 nw2 cw2] rfl (box_cells (box_stays HX8.out hI)) Try.underlying36 rfl info36) ?_
        refine w_callF (FW.of (isSts qs) (fun _ _ _ h hb => isSts_below h hb)) [(137, _)] _ (by decide) (fun vs w hK => ⟨wants_g rfl (fv (hK 2 (memE rfl))), rho_in rfl (fv (hK 3 (memE rfl))), trivial⟩) rfl rfl Try.func21 (by kernel_rfl) rfl (fun wq hI => (all_page _ _ qs wq w6.heap.size HGD.out (gr_below HBV8.out hI) (gr_below HWV8.out hI)).mono fun e w' ⟨v, he, ho, hb⟩ => ⟨v, he, hb, isSts_own ho⟩) (margs rfl) ?_
        refine w_move (.inl rfl) (fun vs w hK => ⟨wants_g rfl (fv (hK 2 (memE rfl))), rho_out rfl rfl⟩) ?_
        refine w_any (.val (.bool true)) (by decide) (fun vs wq hI hK => ?_) ?_
        · obtain ⟨Aq, nq, cq, e1, hsq⟩ : ∃ A n c, vs 4 = .slice A n c ∧ Sts encP 2 wq A n qs := hK 4 (memE rfl)
          refine ob_call [(138, .slice Aq nq cq), (139, .slice A k c)] _ (wants_g rfl (fv (hK 2 (memE rfl)))) ⟨rho_in rfl e1, rho_in rfl (fv (hK 5 (memE rfl))), trivial⟩ rfl rfl Try.func20 (by kernel_rfl) rfl (margs rfl) ((same_any Aq nq cq A k c qs qs wq hsq (sts_below HST.out (below_then HB8.out HB8.out.size hI))).mono ?_)
          rintro e w' ⟨rfl, hb⟩
          exact ⟨_, rfl, hb, congrArg Value.bool (decide_eq_true rfl)⟩
        refine w_pick (b := true) rfl (fun vs w hK => ⟨wants_none rfl, (rho_in rfl (fv (hK 2 (memE rfl)))), (rho_in rfl (fv (hK 6 (memE rfl))))⟩) ?_
        refine w_move (.inr rfl) (fun vs w hK => ⟨wants_none rfl, rho_in rfl (fv (hK 7 (memE rfl)))⟩) ?_
        refine w_end rfl rfl rfl (fun vs wq hI hF => ?_)
        simp only [List.reverse_cons, List.reverse_nil, List.nil_append, List.cons_append, finL_val, finL_of, finL_any, finL_app, finL_new, finL_gr, finL_row, finL_box, finL_nil, Act.put, List.setIfInBounds_toArray, List.set_cons_zero, List.set_cons_succ, Nat.reduceAdd]
        have HB9 := Lib.hid (below_then HB8.out HB8.out.size hI)
        clear hI hF
        go_wp2_with fail
        go_ret
        exact ⟨rfl, HB9.out⟩
      · exact absurd HIP.out (hno _)
end Go.Proofs.Ytnkeijdpjcclcaa.Pg
-- PgW
/- The pages of the law PageWhole, without the program. -/
namespace Go.Proofs.Ytnkeijdpjcclcaa.Pg
set_option linter.unusedVariables false
set_option linter.unusedSimpArgs false
open Go.Proofs.Ytnkeijdpjcclcaa.Kit Go.Proofs.Ytnkeijdpjcclcaa.Num Go.RowKit Go.Proofs.YtnkeijdpjcclcaaW.PrintWords Go.Proofs.YtnkeijdpjcclcaaW.PrintLast Go.Proofs.YtnkeijdpjcclcaaW.PrintMore NumPure
def nmL (i L : Nat) : List Int := [107, 101, 121, ((97 + i / 26 : Nat) : Int), ((97 + i % 26 : Nat) : Int)] ++ List.replicate L 120
def nameW (i : Nat) : Nat → ByteArray
  | 0 => (⟨#[107, 101, 121]⟩ : ByteArray) ++ strOfNums [((97 + i / 26 : Nat) : Int), ((97 + i % 26 : Nat) : Int)]
  | L + 1 => nameW i L ++ ⟨#[120]⟩
theorem nums_nameW (i : Nat) (hi : i < 100) : ∀ L, numsOf (nameW i L) = nmL i L
  | 0 => by
    have h1 : numsOf (⟨#[107, 101, 121]⟩ : ByteArray) = [107, 101, 121] := by rw [numsOf_data]; rfl
    rw [nameW, numsOf_append, h1, numsOf_strOfNums]
    · simp [nmL]
    · intro x hx
      simp only [List.mem_cons, List.not_mem_nil, or_false] at hx
      rcases hx with rfl | rfl <;> omega
  | L + 1 => by
    have h1 : numsOf (⟨#[120]⟩ : ByteArray) = [120] := by rw [numsOf_data]; rfl
    rw [nameW, numsOf_append, nums_nameW i hi L, h1]
    simp only [nmL, List.append_assoc, List.replicate_succ']
theorem nameW_size (i L : Nat) (hi : i < 100) : (nameW i L).size = 5 + L := by
  rw [← numsOf_length, nums_nameW i hi]; simp [nmL]; omega
def listW (L n : Nat) : List PB := (List.range n).map fun i => (nameW i L, ⟨#[118]⟩)
theorem listW_length (L n : Nat) : (listW L n).length = n := by simp [listW]
theorem listW_succ (L n : Nat) : listW L (n + 1) = listW L n ++ [(nameW n L, ⟨#[118]⟩)] := by simp [listW, List.range_succ]
theorem listW_get (L n k : Nat) (h : k < n) : (listW L n).getD k default = (nameW k L, ⟨#[118]⟩) := by
  rw [List.getD_eq_getElem?_getD, List.getElem?_eq_getElem (by rw [listW_length]; exact h)]
  simp [listW]
theorem listW_sizes (L n : Nat) (hn : n ≤ 100) (hL : L ≤ 100) : ∀ p ∈ listW L n, p.1.size ≤ 300 ∧ p.2.size ≤ 300 := by
  intro p hp
  obtain ⟨i, hi, rfl⟩ := List.mem_map.1 hp
  have := List.mem_range.1 hi
  refine ⟨?_, ?_⟩
  · show (nameW i L).size ≤ 300
    rw [nameW_size i L (by omega)]; omega
  · show (⟨#[118]⟩ : ByteArray).size ≤ 300
    decide
theorem nmL_lt (i j L : Nat) (h : i < j) (hj : j < 100) : ltN (nmL i L) (nmL j L) = true := by
  have h1 : i / 26 < j / 26 ∨ (i / 26 = j / 26 ∧ i % 26 < j % 26) := by omega
  simp only [nmL, List.cons_append, List.nil_append, ltN]
  simp only [Int.lt_irrefl, if_false, if_true]
  rcases h1 with h1 | ⟨h1, h2⟩
  · rw [if_pos (by omega)]
  · rw [if_neg (by omega), if_pos (by omega), if_pos (by omega)]
theorem fit_gen {l : List PR} (hs : ∀ p ∈ l, p.1.length ≤ 300 ∧ p.2.length ≤ 300) : ∀ k, k ≤ l.length → (bodyAt l k).length ≤ 700 * k
  | 0, _ => by simp [bodyAt]
  | k + 1, hk => by
    have ih := fit_gen hs k (by omega)
    have hlk : k < l.length := by omega
    have hp := hs l[k] (List.getElem_mem hlk)
    have h1 : nmAt l k = l[k].1 := by simp [nmAt, List.getD_eq_getElem?_getD, List.getElem?_eq_getElem hlk]
    have h2 : vlAt l k = l[k].2 := by simp [vlAt, List.getD_eq_getElem?_getD, List.getElem?_eq_getElem hlk]
    have h3 := same_name l k
    rw [h1] at h3
    have e : (rowOf (sameAt l k) (nmAt l k) (vlAt l k)).length ≤ 700 := by
      unfold rowOf
      rw [h1, h2]
      have a1 := put7_len10 (n := sameAt l k) (by omega)
      have a2 := put7_len10 (n := l[k].1.length - sameAt l k) (by omega)
      have a3 := put7_len10 (n := l[k].2.length) (by omega)
      simp only [List.length_append, List.length_drop]
      omega
    simp only [bodyAt, List.length_append]
    omega
theorem goodW (L n : Nat) (hn : n ≤ 100) (hL : L ≤ 100) : Good (nn (listW L n)) n := by
  intro k hk
  refine ⟨?_, ?_⟩
  · rcases Nat.eq_zero_or_pos k with h | h
    · exact .inl h
    · refine .inr ?_
      have e1 : lastAt (nn (listW L n)) k = nmL (k - 1) L := by
        unfold lastAt
        rw [if_neg (by omega), nm_nn, listW_get L n _ (by omega)]
        exact nums_nameW _ (by omega) L
      have e2 : nmAt (nn (listW L n)) k = nmL k L := by
        rw [nm_nn, listW_get L n _ hk]
        exact nums_nameW _ (by omega) L
      rw [e1, e2]
      exact nmL_lt _ _ L (by omega) (by omega)
  · have hs : ∀ p ∈ nn (listW L n), p.1.length ≤ 300 ∧ p.2.length ≤ 300 := by
      intro p hp
      obtain ⟨q, hq, rfl⟩ := List.mem_map.1 hp
      rw [numsOf_length, numsOf_length]
      exact listW_sizes L n hn hL q hq
    have := fit_gen hs (k + 1) (by rw [nn_length, listW_length]; omega)
    unfold Fit
    omega
theorem body_front {l l' : List PR} : ∀ k, (∀ j, j < k → nmAt l j = nmAt l' j ∧ vlAt l j = vlAt l' j) → bodyAt l k = bodyAt l' k
  | 0, _ => rfl
  | k + 1, h => by
    have ih := body_front k (fun j hj => h j (by omega))
    have h1 := h k (by omega)
    have h2 : lastAt l k = lastAt l' k := by
      unfold lastAt
      split
      · rfl
      · exact (h (k - 1) (by omega)).1
    have h3 : sameAt l k = sameAt l' k := by unfold sameAt; rw [h1.1, h2]
    simp only [bodyAt, ih, h1.1, h1.2, h3]
theorem page_grow (L k : Nat) : (pageOf (nn (listW L k))).length < (pageOf (nn (listW L (k + 1)))).length := by
  rw [page_length, page_length, nn_length, nn_length, listW_length, listW_length]
  have h1 : bodyAt (nn (listW L k)) k = bodyAt (nn (listW L (k + 1))) k := body_front k (fun j hj => by
    rw [nm_nn, nm_nn, vl_nn, vl_nn, listW_get L k j hj, listW_get L (k + 1) j (by omega)]
    exact ⟨rfl, rfl⟩)
  have h2 := body_mono (nn (listW L (k + 1))) k
  have h3 : cntAt k ≤ cntAt (k + 1) := by unfold cntAt; omega
  rw [h1]
  omega
theorem places_get (l : List PR) : ∀ k i, i < cntAt k → (places l k).getD i 0 = ((bodyAt l (8 * i)).length : Int)
  | 0, i, h => by simp [cntAt] at h
  | k + 1, i, h => by
    have ih := places_get l k
    rw [cnt_succ] at h
    simp only [places]
    split
    · next h8 =>
      rw [if_pos h8] at h
      rcases Nat.lt_or_ge i (cntAt k) with g | g
      · rw [List.getD_eq_getElem?_getD, List.getElem?_append_left (by rw [places_length]; exact g), ← List.getD_eq_getElem?_getD]
        exact ih i g
      · obtain rfl : i = cntAt k := by omega
        have hk : 8 * cntAt k = k := by unfold cntAt; omega
        rw [List.getD_eq_getElem?_getD, List.getElem?_append_right (by rw [places_length]; exact Nat.le_refl _), places_length, Nat.sub_self, hk]
        rfl
    · next h8 =>
      rw [if_neg h8] at h
      exact ih i h
theorem nums4_get (xs : List Int) (e : Nat) : ∀ k i, i < k → (nums4 xs e k).getD i 0 = ((leVal ((xs.drop (e + 4 * i)).take 4) : Nat) : Int)
  | 0, i, h => by omega
  | k + 1, i, h => by
    rw [nums4]
    rcases Nat.lt_or_ge i k with g | g
    · rw [List.getD_eq_getElem?_getD, List.getElem?_append_left (by rw [nums4_length]; exact g), ← List.getD_eq_getElem?_getD]
      exact nums4_get xs e k i g
    · obtain rfl : i = k := by omega
      rw [List.getD_eq_getElem?_getD, List.getElem?_append_right (by rw [nums4_length]; exact Nat.le_refl _), nums4_length, Nat.sub_self]
      rfl
/-- What the law looks at, of every eighth pair. -/
theorem wholeW (L n i : Nat) (hn : n ≤ 100) (hL : L ≤ 100) (hi : i < cntAt n) (hn0 : 8 * i < n) (xs : List Int) (hxs : pageOf (nn (listW L n)) = xs) :
    leVal ((xs.drop (xs.length - 4 - 4 * cntAt n + 4 * i)).take 4) = (bodyAt (nn (listW L n)) (8 * i)).length ∧ xs.getD (bodyAt (nn (listW L n)) (8 * i)).length 0 = 0 ∧ xs.getD ((bodyAt (nn (listW L n)) (8 * i)).length + 1) 0 = ((5 + L : Nat) : Int) ∧ (bodyAt (nn (listW L n)) (8 * i)).length + 1 < xs.length := by
  have hg : Good (nn (listW L n)) (nn (listW L n)).length := by rw [nn_length, listW_length]; exact goodW L n hn hL
  have hip : IsPage xs (nn (listW L n)) := ⟨hg, hxs⟩
  have hpe := page_end hip
  have hpp := page_places hip
  have hln : (nn (listW L n)).length = n := by rw [nn_length, listW_length]
  rw [hln] at hpe hpp
  have h1 := nums4_get xs (endOf xs) (cntAt n) i hi
  rw [hpp, places_get _ n i hi] at h1
  have he : endOf xs = xs.length - 4 - 4 * cntAt n := by unfold endOf; rw [hpe.2.1]
  rw [he] at h1
  have hnm : nmAt (nn (listW L n)) (8 * i) = nmL (8 * i) L := by
    rw [nm_nn, listW_get L n _ hn0]
    exact nums_nameW _ (by omega) L
  have hnl : (nmL (8 * i) L).length = 5 + L := by simp [nmL]; omega
  have hs : sameAt (nn (listW L n)) (8 * i) = 0 := by unfold sameAt; rw [if_pos (by omega)]
  have hrow : ∃ r, rowOf (sameAt (nn (listW L n)) (8 * i)) (nmAt (nn (listW L n)) (8 * i)) (vlAt (nn (listW L n)) (8 * i)) = 0 :: ((5 + L : Nat) : Int) :: r := by
    rw [hs, hnm]
    unfold rowOf
    rw [hnl, Nat.sub_zero, put7_small (by omega), put7_small (n := 5 + L) (by omega)]
    exact ⟨_, rfl⟩
  obtain ⟨r, hr⟩ := hrow
  have hsplit : ∃ post, xs = bodyAt (nn (listW L n)) (8 * i) ++ (0 :: ((5 + L : Nat) : Int) :: (r ++ post)) := by
    have key : ∀ m, 8 * i + 1 ≤ m → ∃ post, bodyAt (nn (listW L n)) m = bodyAt (nn (listW L n)) (8 * i) ++ (0 :: ((5 + L : Nat) : Int) :: (r ++ post)) := by
      intro m
      induction m with
      | zero => intro h; omega
      | succ m ih =>
        intro h
        rcases Nat.lt_or_ge (8 * i) m with g | g
        · obtain ⟨post, hp⟩ := ih (by omega)
          exact ⟨post ++ rowOf (sameAt (nn (listW L n)) m) (nmAt (nn (listW L n)) m) (vlAt (nn (listW L n)) m), by simp only [bodyAt]; rw [hp]; simp only [List.append_assoc, List.cons_append]⟩
        · obtain rfl : m = 8 * i := by omega
          exact ⟨[], by simp only [bodyAt]; rw [hr]; simp⟩
    obtain ⟨post, hp⟩ := key n (by omega)
    refine ⟨post ++ (wholeAt (nn (listW L n)) n ++ le (cntAt n) 4), ?_⟩
    rw [← hxs, pageOf, hln, hp]
    simp only [List.append_assoc, List.cons_append]
  obtain ⟨post, hp⟩ := hsplit
  refine ⟨by omega, ?_, ?_, ?_⟩
  · rw [hp, List.getD_eq_getElem?_getD, List.getElem?_append_right (Nat.le_refl _), Nat.sub_self]; rfl
  · rw [hp, List.getD_eq_getElem?_getD, List.getElem?_append_right (by omega), Nat.add_sub_cancel_left]; rfl
  · have := congrArg List.length hp
    simp only [List.length_append, List.length_cons] at this
    omega
theorem and_small (x : Int) (m : Nat) (hm : (BitVec.ofInt 64 ((2 ^ m - 1 : Nat) : Int)).toNat = 2 ^ m - 1) (h16 : m ≤ 16) : ∃ q : Nat, Go.bits .and .i64 x ((2 ^ m - 1 : Nat) : Int) = (q : Int) ∧ q < 2 ^ m := by
  have hp : 0 < 2 ^ m := Nat.pos_of_ne_zero (by simp)
  have hle : 2 ^ m ≤ 2 ^ 16 := Nat.pow_le_pow_right (by omega) h16
  have h65 : (2 : Nat) ^ 16 = 65536 := by decide
  refine ⟨(BitVec.ofInt 64 x).toNat % 2 ^ m, ?_, Nat.mod_lt _ hp⟩
  have hlt : (BitVec.ofInt 64 x).toNat % 2 ^ m < 2 ^ m := Nat.mod_lt _ hp
  show IntKind.i64.wrap ((BitVec.ofInt 64 x &&& BitVec.ofInt 64 ((2 ^ m - 1 : Nat) : Int)).toNat : Int) = _
  rw [BitVec.toNat_and, hm, Nat.and_two_pow_sub_one_eq_mod, i64_id (by omega) (by omega)]
theorem and63 (x : Int) : ∃ q : Nat, Go.bits .and .i64 x 63 = (q : Int) ∧ q < 64 := and_small x 6 (by decide) (by omega)
theorem and15 (x : Int) : ∃ q : Nat, Go.bits .and .i64 x 15 = (q : Int) ∧ q < 16 := and_small x 4 (by decide) (by omega)
end Go.Proofs.Ytnkeijdpjcclcaa.Pg
-- PageWhole
/- The walk of the law PageWhole: every eighth pair is laid whole; a page of more pairs is longer. -/
namespace Go.Proofs.Ytnkeijdpjcclcaa.Pg
set_option linter.unusedVariables false
set_option linter.unusedSimpArgs false
open Go.Proofs.Ytnkeijdpjcclcaa.Kit Go.Proofs.Ytnkeijdpjcclcaa.Num Go.RowKit Go.Proofs.YtnkeijdpjcclcaaW.PrintWords Go.Proofs.YtnkeijdpjcclcaaW.PrintLast Go.Proofs.YtnkeijdpjcclcaaW.PrintMore NumPure
def szW (L k : Nat) : Nat := if k = 0 then 0 else (pageOf (nn (listW L k))).length
theorem szW_lt (L k : Nat) : szW L k < (pageOf (nn (listW L (k + 1)))).length := by
  unfold szW
  split
  · rw [page_length]; omega
  · exact page_grow L k
theorem reg_6_3 : RegOk (opsOf Try.f6 3) [[], [0], [0, 1], [0, 1, 2]] [] [some 19, some 20, some 21, some 0] := regOk (by kernel_rfl)
theorem reg_6_4 : RegOk (opsOf Try.f6 4) [[], [0], [0, 1], [0, 1, 2]] [] [some 22, some 23, some 24, some 1] := regOk (by kernel_rfl)
theorem reg_6_10 : RegOk (opsOf Try.f6 10) [[], [0], [0, 1], [0, 1, 2], [], [4], [4, 5], [4, 5, 6], [0, 1, 2, 3, 4, 5, 6, 7], [0, 1, 2, 3, 4, 5, 6, 7, 8], [0, 1, 2, 3, 4, 5, 6, 7, 8, 9], [0, 1, 2, 3, 4, 5, 6, 7, 8, 9, 10]] [] [some 31, some 32, some 33, some 34, some 35, some 36, some 37, some 38, some 39, some 40, some 41, some 8] := regOk (by kernel_rfl)
theorem reg_6_14 : RegOk (opsOf Try.f6 14) [[], [0], [0, 1]] [] [some 47, some 48, some 8] := regOk (by kernel_rfl)
theorem reg_6_17 : RegOk (opsOf Try.f6 17) [[], [0], [0, 1], [0, 1, 2], [0, 1, 2, 3], [0, 1, 2], [0, 1, 2, 3, 4, 5], [0, 1, 2, 3, 4, 5, 6]] [] [some 59, some 60, some 61, some 62, some 63, some 64, some 65, some 66] := regOk (by kernel_rfl)
theorem reg_6_22 : RegOk (opsOf Try.f6 22) [[], [], [1], [1, 2], [0, 1, 2, 3]] [] [some 81, some 82, some 83, some 84, some 85] := regOk (by kernel_rfl)
theorem reg_6_27 : RegOk (opsOf Try.f6 27) [[], [], [1], [1, 2], [], [4], [1, 2, 3, 4, 5], [], [7], [1, 2, 3, 4, 5, 6, 7, 8], [0, 1, 2, 3, 4, 5, 6, 7, 8, 9], [0, 1, 2, 3, 4, 5, 6, 7, 8, 9, 10], [0, 1, 2, 3, 4, 5, 6, 7, 8, 9, 10, 11], [0, 1, 2, 3, 4, 5, 6, 7, 8, 9, 10, 11, 12], [0, 1, 2, 3, 4, 5, 6, 7, 8, 9, 10, 11, 12, 13]] [] [some 91, some 92, some 93, some 94, some 95, some 96, some 97, some 98, some 99, some 100, some 101, some 102, some 103, some 104, some 16] := regOk (by kernel_rfl)
theorem reg_6_28 : RegOk (opsOf Try.f6 28) [[], [], [0, 1], [0, 1, 2], [0, 1, 2, 3], [0, 1, 2, 3, 4], [0, 1, 2, 3, 4, 5], [0, 1, 2, 3, 4, 5], [0, 1, 2, 3, 4, 5, 7], [0, 1, 2, 3, 4, 5, 6, 7, 8], [0, 1, 2, 3, 4, 5, 6, 7, 8, 9], [0, 1, 2, 3, 4, 5, 6, 7, 8, 9, 10], [0, 1, 2, 3, 4, 5], [0, 1, 2, 3, 4, 5], [0, 1, 2, 3, 4, 5, 13], [0, 1, 2, 3, 4, 5, 12, 13, 14], [0, 1, 2, 3, 4, 5, 12, 13, 14, 15], [0, 1, 2, 3, 4, 5, 12, 13, 14, 15, 16], [0, 1, 2, 3, 4, 5, 12, 13, 14, 15, 16, 17], [0, 1, 2, 3, 4, 5, 6, 7, 8, 9, 10, 11, 12, 13, 14, 15, 16, 17, 18], [0, 1, 2, 3, 4, 5, 6, 7, 8, 9, 10, 11, 12, 13, 14, 15, 16, 17, 18, 19]] [] [some 105, some 106, some 107, some 108, some 109, some 110, some 111, some 112, some 113, some 114, some 115, some 116, some 117, some 118, some 119, some 120, some 121, some 122, some 123, some 124, some 125] := regOk (by kernel_rfl)
set_option maxRecDepth 20000 in
set_option maxHeartbeats 1600000 in
theorem whole_any (n long : Int) (w : World) (_ : (Lit.int .i64 n).wf = true) (_ : (Lit.int .i64 long).wf = true) :
    Calls Try.prog 6 #[.int .i64 n, .int .i64 long] w fun e w' => e = .returned (.bool true) ∧ Below w.heap.size w w' := by
  have C0 := Lib.hid (head_any w)
  obtain ⟨q, hq, hq1⟩ := and63 n
  obtain ⟨r, hr, hr1⟩ := and15 long
  have HQ := Lib.hid hq
  have HR := Lib.hid hr
  clear hq hr
  go_enter Try.func6, Try.ntmps6
  go_wp2_with fail
  refine C0.out.mono ?_
  rintro e w1 ⟨rfl, hb1⟩
  have HB1 := Lib.hid hb1
  clear hb1 C0
  go_upto_region 3 with fail
  refine plain_ (fun wq => Below w1.heap.size w1 wq) (fun _ => True) reg_6_3 rfl inv0 (fun _ _ _ _ => trivial) (Below.refl _ _) trivial ?_
  refine w_move (.inl rfl) (fun vs w hK => ⟨wants_none rfl, rho_out rfl rfl⟩) ?_
  refine w_val [(19, _)] (_) (fun vs w hK => ⟨wants_none rfl, rho_in rfl (fv (hK 0 (memE rfl))), trivial⟩) rfl (fun wq hI => by exact op_and rfl rfl rfl HQ.out) ?_
  refine w_val [(20, _)] (_) (fun vs w hK => ⟨wants_none rfl, rho_in rfl (fv (hK 1 (memE rfl))), trivial⟩) rfl (fun wq hI => by exact run_int_add (c := ((1 + q : Nat) : Int)) rfl rfl rfl (by rw [i64_id (by omega) (by omega)]; omega)) ?_
  refine w_move (.inr rfl) (fun vs w hK => ⟨wants_none rfl, rho_in rfl (fv (hK 2 (memE rfl)))⟩) ?_
  refine w_end rfl rfl rfl (fun vs wq hI hF => ?_)
  simp only [List.reverse_cons, List.reverse_nil, List.nil_append, List.cons_append, finL_val, finL_of, finL_any, finL_app, finL_new, finL_gr, finL_row, finL_box, finL_nil, Act.put, List.setIfInBounds_toArray, List.set_cons_zero, List.set_cons_succ, Nat.reduceAdd]
  have HB2 := Lib.hid (below_then HB1.out HB1.out.size hI)
  clear hI hF HB1 HQ
  obtain ⟨w2, rfl⟩ : ∃ w2 : World, w2 = wq := ⟨_, rfl⟩
  go_upto_region 4 with fail
  refine plain_ (fun wq => Below w2.heap.size w2 wq) (fun _ => True) reg_6_4 rfl inv0 (fun _ _ _ _ => trivial) (Below.refl _ _) trivial ?_
  refine w_move (.inl rfl) (fun vs w hK => ⟨wants_none rfl, rho_out rfl rfl⟩) ?_
  refine w_val [(22, _)] (_) (fun vs w hK => ⟨wants_none rfl, rho_in rfl (fv (hK 0 (memE rfl))), trivial⟩) rfl (fun wq hI => by exact op_and rfl rfl rfl HR.out) ?_
  refine w_val [(23, _)] (_) (fun vs w hK => ⟨wants_none rfl, rho_in rfl (fv (hK 1 (memE rfl))), trivial⟩) rfl (fun wq hI => by exact run_int_add (c := ((1 + r : Nat) : Int)) rfl rfl rfl (by rw [i64_id (by omega) (by omega)]; omega)) ?_
  refine w_move (.inr rfl) (fun vs w hK => ⟨wants_none rfl, rho_in rfl (fv (hK 2 (memE rfl)))⟩) ?_
  refine w_end rfl rfl rfl (fun vs wq hI hF => ?_)
  simp only [List.reverse_cons, List.reverse_nil, List.nil_append, List.cons_append, finL_val, finL_of, finL_any, finL_app, finL_new, finL_gr, finL_row, finL_box, finL_nil, Act.put, List.setIfInBounds_toArray, List.set_cons_zero, List.set_cons_succ, Nat.reduceAdd]
  have HB3 := Lib.hid (below_then HB2.out HB2.out.size hI)
  clear hI hF HB2 HR
  obtain ⟨w3, rfl⟩ : ∃ w3 : World, w3 = wq := ⟨_, rfl⟩
  obtain ⟨N, hN⟩ : ∃ N, 1 + q = N := ⟨_, rfl⟩
  obtain ⟨L, hL⟩ : ∃ L, 1 + r = L := ⟨_, rfl⟩
  rw [hN, hL]
  have hN1 : 1 ≤ N ∧ N ≤ 64 := by omega
  have hL1 : L ≤ 16 := by omega
  clear hN hL hq1 hr1
  have hO : OwnK encP 2 30 (w3.alloc (.cells #[] 30)) w.heap.size (.slice (some ⟨w3.heap.size, 0, none⟩) 0 0) (listW L 0) := World.ownsRow_made w3 #[] 0 HB3.out.size (Nat.zero_le _) rfl
  have HO := Lib.hid hO
  have HB4 : Hid (Below w.heap.size w (w3.alloc (.cells #[] 30))) := Lib.hid (below_alloc HB3.out _)
  clear hO HB3
  go_wp2_with fail
  go_loopw [5, 6, 7] (fun ls sz i wr => ∃ k : Nat, k ≤ N ∧ i = .int .i64 k ∧ sz = .int .i64 (szW L k : Nat) ∧ Hid (OwnK encP 2 30 wr w.heap.size ls (listW L k)) ∧ Hid (Below w.heap.size w wr)) (fun _ _ i _ => N - (intOf i).toNat)
  case atStart => exact ⟨0, by omega, rfl, rfl, HO, HB4⟩
  case round =>
    obtain ⟨k, hk, rfl, rfl, HO, HW⟩ := hrel
    by_cases hlt : k < N
    · have t1 : decide ((k : Int) < (N : Int)) = true := decide_eq_true (by omega)
      have HLT := Lib.hid hlt
      go_upto_region 10 with fail
      refine plain_ (fun wq => Below wr.heap.size wr wq) (fun _ => True) reg_6_10 rfl inv0 (fun _ _ _ _ => trivial) (Below.refl _ _) trivial ?_
      refine w_move (.inl rfl) (fun vs w hK => ⟨wants_none rfl, rho_out rfl rfl⟩) ?_
      refine w_val [(31, _)] (_) (fun vs w hK => ⟨wants_none rfl, rho_in rfl (fv (hK 0 (memE rfl))), trivial⟩) rfl (fun wq hI => by exact op_quo (c := ((k / 26 : Nat) : Int)) rfl rfl rfl (by decide) (by show IntKind.i64.wrap (Int.tdiv (k : Int) ((26 : Nat) : Int)) = _; rw [quo_nat]; exact i64_id (by omega) (by omega))) ?_
      refine w_val [(32, _)] (_) (fun vs w hK => ⟨wants_none rfl, rho_in rfl (fv (hK 1 (memE rfl))), trivial⟩) rfl (fun wq hI => by exact run_int_add (c := ((97 + k / 26 : Nat) : Int)) rfl rfl rfl (by rw [i64_id (by omega) (by omega)]; omega)) ?_
      refine w_val [(33, _)] (_) (fun vs w hK => ⟨wants_none rfl, rho_in rfl (fv (hK 2 (memE rfl))), trivial⟩) rfl (fun wq hI => by exact op_conv_int rfl Try.underlying3 Try.underlying5 rfl (u8_nat (97 + k / 26) (by omega))) ?_
      refine w_move (.inl rfl) (fun vs w hK => ⟨wants_none rfl, rho_out rfl rfl⟩) ?_
      refine w_val [(35, _)] (_) (fun vs w hK => ⟨wants_none rfl, rho_in rfl (fv (hK 4 (memE rfl))), trivial⟩) rfl (fun wq hI => by exact op_rem rfl rfl rfl (by decide) (rem_nat k 26)) ?_
      refine w_val [(36, _)] (_) (fun vs w hK => ⟨wants_none rfl, rho_in rfl (fv (hK 5 (memE rfl))), trivial⟩) rfl (fun wq hI => by exact run_int_add (c := ((97 + k % 26 : Nat) : Int)) rfl rfl rfl (by rw [i64_id (by omega) (by omega)]; omega)) ?_
      refine w_val [(37, _)] (_) (fun vs w hK => ⟨wants_none rfl, rho_in rfl (fv (hK 6 (memE rfl))), trivial⟩) rfl (fun wq hI => by exact op_conv_int rfl Try.underlying3 Try.underlying5 rfl (u8_nat (97 + k % 26) (by omega))) ?_
      refine w_lit (by decide) [(34, _), (38, _)] .u8 [((97 + k / 26 : Nat) : Int), ((97 + k % 26 : Nat) : Int)] _ tb (fun vs w hK => ⟨wants_none rfl, rho_in rfl (fv (hK 3 (memE rfl))), rho_in rfl (fv (hK 7 (memE rfl))), trivial⟩) rfl rfl rfl (by decide) (by decide) rfl ?_
      refine w_str (j := 8) (by decide) Try.underlying9 Try.underlying5 tb rfl rfl (fun vs w hK => wants_none rfl) (fun vs w hK => hK 8 (memE rfl)) ?_
      refine w_val [(40, _)] (_) (fun vs w hK => ⟨wants_none rfl, rho_in rfl (fv (hK 9 (memE rfl))), trivial⟩) rfl (fun wq hI => by exact run_cat_op rfl rfl rfl (by rw [strOf_size]; show 3 + 2 ≤ 9223372036854775807; omega)) ?_
      refine w_move (.inr rfl) (fun vs w hK => ⟨wants_none rfl, rho_in rfl (fv (hK 10 (memE rfl)))⟩) ?_
      refine w_end rfl rfl rfl (fun vs wq hI hF => ?_)
      simp only [List.reverse_cons, List.reverse_nil, List.nil_append, List.cons_append, finL_val, finL_of, finL_any, finL_app, finL_new, finL_gr, finL_row, finL_box, finL_nil, Act.put, List.setIfInBounds_toArray, List.set_cons_zero, List.set_cons_succ, Nat.reduceAdd]
      have HO2 := Lib.hid (ownk_below HO.out hI)
      have HW2 := Lib.hid (below_then HW.out HW.out.size hI)
      clear hI hF HO HW
      obtain ⟨w5, rfl⟩ : ∃ w5 : World, w5 = wq := ⟨_, rfl⟩
      go_wp2_with fail
      go_loopw [8, 9] (fun nm j wr => ∃ s : Nat, s ≤ L ∧ j = .int .i64 s ∧ nm = .string (nameW k s) ∧ Hid (OwnK encP 2 30 wr w.heap.size u5 (listW L k)) ∧ Hid (Below w.heap.size w wr)) (fun _ j _ => L - (intOf j).toNat)
      case atStart => exact ⟨0, by omega, rfl, rfl, HO2, HW2⟩
      case round =>
        obtain ⟨s, hs, rfl, rfl, HO3, HW3⟩ := hrel
        have hsz := nameW_size k s (by omega)
        by_cases hlt2 : s < L
        · have t2 : decide ((s : Int) < (L : Int)) = true := decide_eq_true (by omega)
          go_upto_region 14 with fail
          refine plain_ (fun wq => Below wr.heap.size wr wq) (fun _ => True) reg_6_14 rfl inv0 (fun _ _ _ _ => trivial) (Below.refl _ _) trivial ?_
          refine w_move (.inl rfl) (fun vs w hK => ⟨wants_none rfl, rho_out rfl rfl⟩) ?_
          refine w_val [(47, _)] (.string (nameW k (s + 1))) (fun vs w hK => ⟨wants_none rfl, rho_in rfl (fv (hK 0 (memE rfl))), trivial⟩) rfl (fun wq hI => by exact run_cat_op rfl rfl rfl (by rw [hsz]; show 5 + s + 1 ≤ _; omega)) ?_
          refine w_move (.inr rfl) (fun vs w hK => ⟨wants_none rfl, rho_in rfl (fv (hK 1 (memE rfl)))⟩) ?_
          refine w_end rfl rfl rfl (fun vs wq hI hF => ?_)
          simp only [List.reverse_cons, List.reverse_nil, List.nil_append, List.cons_append, finL_val, finL_of, finL_any, finL_app, finL_new, finL_gr, finL_row, finL_box, finL_nil, Act.put, List.setIfInBounds_toArray, List.set_cons_zero, List.set_cons_succ, Nat.reduceAdd]
          have HO4 := Lib.hid (ownk_below HO3.out hI)
          have HW4 := Lib.hid (below_then HW3.out HW3.out.size hI)
          clear hI hF HO3 HW3
          go_wp2_with fail
          go_roundw
          case rel => exact ⟨s + 1, by omega, by go_num, rfl, HO4, HW4⟩
          case measure => simp [intOf]; omega
        · obtain rfl : s = L := by omega
          have t2 : decide ((s : Int) < (s : Int)) = false := by simp
          have hba : Below wr.heap.size wr (wr.alloc (.cells #[.string (nameW k s), .string ⟨#[118]⟩] 30)) := below_alloc (Below.refl _ _) _
          have HSA : Hid (Sts encP 2 (wr.alloc (.cells #[.string (nameW k s), .string ⟨#[118]⟩] 30)) (some ⟨wr.heap.size, 0, none⟩) 1 [(nameW k s, ⟨#[118]⟩)]) := Lib.hid (sts_one encP_len rfl (heap_alloc_new wr _))
          have HOA := Lib.hid (ownk_below HO3.out hba)
          have HWA := Lib.hid (below_then HW3.out HW3.out.size hba)
          have hll := listW_length s k
          have HSU := Lib.hid (listW_succ s k)
          have HGD := Lib.hid (goodW s (k + 1) (by omega) (by omega))
          have HSZ := Lib.hid (listW_sizes s (k + 1) (by omega) (by omega))
          have HGR := Lib.hid (szW_lt s k)
          have HSE : Hid (szW s (k + 1) = (pageOf (nn (listW s (k + 1)))).length) := Lib.hid (by unfold szW; rw [if_neg (by omega)])
          have HPL : Hid ((pageOf (nn (listW s (k + 1)))).length ≤ 300000) := Lib.hid (by
            have h1 := page_length (nn (listW s (k + 1)))
            have h2 := body_fit HGD.out
            rw [nn_length, listW_length] at h1
            have : cntAt (k + 1) ≤ 100 := by unfold cntAt; omega
            omega)
          generalize hls : listW s k = ls at HOA HSU hll
          generalize nameW k s = nm at HSA HOA HWA HSU hsz ⊢
          clear hba HO3 HW3 HO2 HW2 hls
          go_wp2_with (at_builtin; refine gapp_sts encP_len encP_one et30 rfl (.tmp 49) (.tmp 52) rfl rfl rfl HOA.out HSA.out HWA.out HWA.out.size ?cL ?cM ?_; (case cL => omega); (case cM => omega); intro v1 w6 ho hb1 hs1 hf; have HO6 := Lib.hid ho; have HW6 := Lib.hid hb1; obtain ⟨A6, n6, c6, rfl, h6c, HL6, _, hst6⟩ := ownk_open encP_len ho; have HS6 := Lib.hid hst6; clear ho hb1 hs1 hf hst6)
          rw [← HSU.out] at HO6 HS6 HL6
          have hn6 : n6 = k + 1 := by rw [← HL6.out, listW_length]
          have CM := Lib.hid (make_page A6 n6 c6 (listW s (k + 1)) w6 HS6.out (by rw [listW_length]; exact HGD.out) (fun p hp => by have := HSZ.out p hp; omega))
          clear hn6 HL6 HSU HSA HOA HWA HSZ HS6
          refine CM.out.mono ?_
          rintro e w7 ⟨v7, rfl, hg7, hb7⟩
          obtain ⟨A7, nb, c7, rfl, _, HL7, _, _⟩ := gr_open hg7
          have HO7 := Lib.hid (ownk_below HO6.out hb7)
          have HW7 := Lib.hid (below_then HW6.out HW6.out.size hb7)
          have hnb : (pageOf (nn (listW s (k + 1)))).length = nb := HL7.out
          have hgr := HGR.out
          have hpl := HPL.out
          have hse := HSE.out
          rw [hnb] at hgr hpl hse
          have HSE2 := Lib.hid hse
          generalize hsw : szW s k = sz at hgr ⊢
          clear hg7 hb7 HO6 HW6 CM HGR HPL HSE hnb hse HL7 hsw HGD
          go_upto_region 17 with fail
          refine plain_ (fun wq => Below w7.heap.size w7 wq) (fun _ => True) reg_6_17 rfl inv0 (fun _ _ _ _ => trivial) (Below.refl _ _) trivial ?_
          refine w_move (.inl rfl) (fun vs w hK => ⟨wants_none rfl, rho_out rfl rfl⟩) ?_
          refine w_val [(59, _)] (_) (fun vs w hK => ⟨wants_none rfl, rho_in rfl (fv (hK 0 (memE rfl))), trivial⟩) rfl (fun wq hI => by exact run_int_neq (r := false) rfl rfl rfl rfl) ?_
          refine w_move (.inl rfl) (fun vs w hK => ⟨wants_none rfl, rho_in rfl (fv (hK 1 (memE rfl)))⟩) ?_
          refine w_move (.inl rfl) (fun vs w hK => ⟨wants_g rfl (fv (hK 2 (memE rfl))), rho_out rfl rfl⟩) ?_
          refine w_val [(62, _)] (_) (fun vs w hK => ⟨wants_g rfl (fv (hK 2 (memE rfl))), rho_in rfl (fv (hK 3 (memE rfl))), trivial⟩) rfl (fun wq hI => by exact run_len_sl rfl Try.underlying25 rfl rfl) ?_
          refine w_move (.inl rfl) (fun vs w hK => ⟨wants_g rfl (fv (hK 2 (memE rfl))), rho_out rfl rfl⟩) ?_
          refine w_val [(63, _), (64, _)] (_) (fun vs w hK => ⟨wants_g rfl (fv (hK 2 (memE rfl))), rho_in rfl (fv (hK 4 (memE rfl))), rho_in rfl (fv (hK 5 (memE rfl))), trivial⟩) rfl (fun wq hI => by exact run_int_leq (r := false) rfl rfl rfl (decide_eq_false (by omega))) ?_
          refine w_pick (b := false) rfl (fun vs w hK => ⟨wants_none rfl, (rho_in rfl (fv (hK 2 (memE rfl)))), (rho_in rfl (fv (hK 6 (memE rfl))))⟩) ?_
          refine w_end rfl rfl rfl (fun vs wq hI hF => ?_)
          simp only [List.reverse_cons, List.reverse_nil, List.nil_append, List.cons_append, finL_val, finL_of, finL_any, finL_app, finL_new, finL_gr, finL_row, finL_box, finL_nil, Act.put, List.setIfInBounds_toArray, List.set_cons_zero, List.set_cons_succ, Nat.reduceAdd]
          have HO8 := Lib.hid (ownk_below HO7.out hI)
          have HW8 := Lib.hid (below_then HW7.out HW7.out.size hI)
          clear hI hF HO7 HW7
          go_wp2_with fail
          go_roundw
          case rel => exact ⟨k + 1, by have := HLT.out; omega, by go_num, by rw [HSE2.out], HO8, HW8⟩
          case measure => simp [intOf]; omega
    · obtain rfl : k = N := by omega
      have t1 : decide ((k : Int) < (k : Int)) = false := by simp
      obtain ⟨A6, n6, c6, rfl, h6c, HL6, _, hst6⟩ := ownk_open encP_len HO.out
      have hn6 : k = n6 := by rw [← HL6.out, listW_length]
      subst hn6
      have HS6 := Lib.hid hst6
      have hgd := goodW L k (by omega) (by omega)
      have hgd' : Good (nn (listW L k)) (nn (listW L k)).length := by rw [nn_length, listW_length]; exact hgd
      have CM := Lib.hid (make_page A6 k c6 (listW L k) wr hst6 (by rw [listW_length]; exact hgd) (fun p hp => by have := listW_sizes L k (by omega) (by omega) p hp; omega))
      have HGD := Lib.hid hgd'
      have HBY := Lib.hid (page_byte (nn_byte (listW L k)))
      clear hst6 HO HL6 hlt hgd hgd'
      go_wp2_with fail
      refine CM.out.mono ?_
      rintro e w7 ⟨v7, rfl, hg7, hb7⟩
      obtain ⟨A7, nb, c7, rfl, h7c, HL7, _, hr7⟩ := gr_open hg7
      have HS7 := Lib.hid (sts_below HS6.out hb7)
      have HW7 := Lib.hid (below_then HW.out HW.out.size hb7)
      have HWP := Lib.hid (fun i hi h8 => wholeW L k i (by omega) (by omega) hi h8 _ rfl)
      have hpe := page_end (xs := pageOf (nn (listW L k))) (l := nn (listW L k)) ⟨HGD.out, rfl⟩
      have hpl := page_length (nn (listW L k))
      have hbf := body_fit HGD.out
      have hxl : (pageOf (nn (listW L k))).length = nb := HL7.out
      rw [nn_length, listW_length] at hpe
      have hlv := hpe.2.1
      have hq3 := hpe.2.2.1
      rw [nn_length, listW_length] at hpl hbf
      generalize pageOf (nn (listW L k)) = xs at hr7 HWP hxl HBY hlv hq3 hpl
      have hcq : cntAt k ≤ 100 := by unfold cntAt; omega
      rw [hxl] at hlv hq3 hpl
      have HR7 := Lib.hid hr7
      have HXL := Lib.hid hxl
      have hcd : (k + 7) / 8 = cntAt k := rfl
      have HCD := Lib.hid hcd
      have hk8 : ∀ i, i < cntAt k → 8 * i < k := fun i hi => by unfold cntAt at hi; omega
      have HK8 := Lib.hid hk8
      clear hg7 hb7 hr7 hpe HS6 HW CM HL7 hcd hk8 HGD
      generalize cntAt k = q at hlv hq3 hpl hcq HWP HCD HK8
      have hw4 : IntKind.i64.wrap ((nb : Int) - 4) = ((nb - 4 : Nat) : Int) := by rw [i64_id (by omega) (by omega)]; omega
      obtain ⟨A8, hcut, hC⟩ := cut_from (enc := Value.int .u8) (h1 := int_one .u8) 0 tb A7 nb c7 (nb - 4) 4 (by omega) h7c ((nb - 4 : Nat) : Int) rfl
      have hl4 : (xs.drop (nb - 4)).length = 4 := by rw [List.length_drop, HXL.out]; omega
      have hcl := little_val A8 4 (c7 - (nb - 4)) _ w7 (hC w7 xs HR7.out) hl4 (by omega) (HBY.out.drop (nb - 4))
      rw [List.take_of_length_le (by rw [hl4]; omega), hlv] at hcl
      have CL := Lib.hid hcl
      have hwq : IntKind.i64.wrap (q : Int) = (q : Int) := i64_id (by omega) (by omega)
      have hnb1 : 4 * q + 4 ≤ nb := by omega
      have hnb2 : nb ≤ 300000 := by omega
      clear hcl hlv hC hl4 hxl hpl hbf hq3
      go_wp2_with fail
      refine CL.out.mono ?_
      rintro e w' ⟨rfl, rfl⟩
      clear CL hcut
      go_upto_region 22 with fail
      refine plain_ (fun wq => Below w7.heap.size w7 wq) (fun _ => True) reg_6_22 rfl inv0 (fun _ _ _ _ => trivial) (Below.refl _ _) trivial ?_
      refine w_move (.inl rfl) (fun vs w hK => ⟨wants_none rfl, rho_out rfl rfl⟩) ?_
      refine w_move (.inl rfl) (fun vs w hK => ⟨wants_none rfl, rho_out rfl rfl⟩) ?_
      refine w_val [(82, _)] (_) (fun vs w hK => ⟨wants_none rfl, rho_in rfl (fv (hK 1 (memE rfl))), trivial⟩) rfl (fun wq hI => by exact run_int_add (c := ((k + 7 : Nat) : Int)) rfl rfl rfl (by rw [i64_id (by omega) (by omega)]; omega)) ?_
      refine w_val [(83, _)] (_) (fun vs w hK => ⟨wants_none rfl, rho_in rfl (fv (hK 2 (memE rfl))), trivial⟩) rfl (fun wq hI => by exact op_quo (c := ((q : Nat) : Int)) rfl rfl rfl (by decide) (by show IntKind.i64.wrap (Int.tdiv ((k + 7 : Nat) : Int) ((8 : Nat) : Int)) = _; rw [quo_nat, HCD.out]; exact hwq)) ?_
      refine w_val [(81, _), (84, _)] (_) (fun vs w hK => ⟨wants_none rfl, rho_in rfl (fv (hK 0 (memE rfl))), rho_in rfl (fv (hK 3 (memE rfl))), trivial⟩) rfl (fun wq hI => by exact run_int_neq (r := false) rfl rfl rfl (by simp)) ?_
      refine w_end rfl rfl rfl (fun vs wq hI hF => ?_)
      simp only [List.reverse_cons, List.reverse_nil, List.nil_append, List.cons_append, finL_val, finL_of, finL_any, finL_app, finL_new, finL_gr, finL_row, finL_box, finL_nil, Act.put, List.setIfInBounds_toArray, List.set_cons_zero, List.set_cons_succ, Nat.reduceAdd]
      have HS8 := Lib.hid (sts_below HS7.out hI)
      have HW8 := Lib.hid (below_then HW7.out HW7.out.size hI)
      have HR8 := Lib.hid (rds_below HR7.out hI)
      clear hI hF HS7 HW7 HR7
      obtain ⟨w8, rfl⟩ : ∃ w8 : World, w8 = wq := ⟨_, rfl⟩
      go_wp2_with fail
      go_loopw [15] (fun i wr => ∃ j : Nat, j ≤ q ∧ i = .int .i64 j ∧ Hid (Below w8.heap.size w8 wr)) (fun i _ => q - (intOf i).toNat)
      case atStart => exact ⟨0, by omega, rfl, Lib.hid (Below.refl _ _)⟩
      case round =>
        obtain ⟨j, hj, rfl, HJ⟩ := hrel
        by_cases hlt : j < q
        · have t2 : decide ((j : Int) < (q : Int)) = true := decide_eq_true (by omega)
          have h8j := HK8.out j hlt
          obtain ⟨p1, p2, p3, p4⟩ := HWP.out j hlt h8j
          rw [HXL.out] at p1 p4
          generalize (bodyAt (nn (listW L k)) (8 * j)).length = a at p1 p2 p3 p4
          obtain ⟨A9, hcut9, hC9⟩ := cut_from (enc := Value.int .u8) (h1 := int_one .u8) 0 tb A7 nb c7 (nb - 4 - 4 * q + 4 * j) (nb - (nb - 4 - 4 * q + 4 * j)) (by omega) h7c ((nb - 4 - 4 * q + 4 * j : Nat) : Int) rfl
          obtain ⟨hcut10, hC10⟩ := cut_to (enc := Value.int .u8) (h1 := int_one .u8) 0 tb A9 (nb - (nb - 4 - 4 * q + 4 * j)) (c7 - (nb - 4 - 4 * q + 4 * j)) 4 (by omega) (by omega) 4 rfl
          have hl4 : ((xs.drop (nb - 4 - 4 * q + 4 * j)).take 4).length = 4 := by rw [List.length_take, List.length_drop, HXL.out]; omega
          have HCL := Lib.hid (fun wq (h : Below wr.heap.size wr wq) => pureB (little_val A9 4 (c7 - (nb - 4 - 4 * q + 4 * j)) _ wq (hC10 wq _ (hC9 wq xs (rds_below HR8.out (below_then HJ.out HJ.out.size h)))) hl4 (by omega) ((HBY.out.drop _).take 4)))
          rw [List.take_of_length_le (by rw [hl4]; omega), p1] at HCL
          have HCU9 := Lib.hid hcut9
          have HCU10 := Lib.hid hcut10
          obtain ⟨ad, hAd, hc0⟩ := rds_at 0 (rds_below HR8.out HJ.out) a (by omega)
          obtain ⟨ad', hAd', hc1⟩ := rds_at 0 (rds_below HR8.out HJ.out) (a + 1) (by omega)
          subst hAd
          injection hAd' with hAd'
          subst hAd'
          rw [p2] at hc0
          rw [p3] at hc1
          obtain ⟨ad2, rfl, hcs⟩ := (sts_below HS8.out HJ.out).row (by omega)
          have hnm := hcs (8 * j) (nameW (8 * j) L, ⟨#[118]⟩) (by have := listW_get L k (8 * j) h8j; rw [List.getD_eq_getElem?_getD, List.getElem?_eq_getElem (by rw [listW_length]; exact h8j)] at this; rw [List.getElem?_eq_getElem (by rw [listW_length]; exact h8j)]; exact congrArg some this) 0 _ rfl
          rw [Addr.add_add, Nat.add_zero] at hnm
          have hsz := nameW_size (8 * j) L (by omega)
          generalize nameW (8 * j) L = nm at hnm hsz
          have C0 := Lib.hid hc0
          have C1 := Lib.hid hc1
          have CN := Lib.hid hnm
          clear hcut9 hcut10 hC9 hC10 hl4 p1 p2 p3 hc0 hc1 hcs hnm
          go_upto_region 27 with fail
          refine plain_ (fun wq => Below wr.heap.size wr wq) (fun _ => True) reg_6_27 rfl inv0 (fun _ _ _ _ => trivial) (Below.refl _ _) trivial ?_
          refine w_move (.inl rfl) (fun vs w hK => ⟨wants_none rfl, rho_out rfl rfl⟩) ?_
          refine w_move (.inl rfl) (fun vs w hK => ⟨wants_none rfl, rho_out rfl rfl⟩) ?_
          refine w_val [(92, _)] (_) (fun vs w hK => ⟨wants_none rfl, rho_in rfl (fv (hK 1 (memE rfl))), trivial⟩) rfl (fun wq hI => by exact run_len_sl rfl Try.underlying25 rfl rfl) ?_
          refine w_val [(93, _)] (_) (fun vs w hK => ⟨wants_none rfl, rho_in rfl (fv (hK 2 (memE rfl))), trivial⟩) rfl (fun wq hI => by exact run_int_sub (c := ((nb - 4 : Nat) : Int)) rfl rfl rfl hw4) ?_
          refine w_move (.inl rfl) (fun vs w hK => ⟨wants_none rfl, rho_out rfl rfl⟩) ?_
          refine w_val [(95, _)] (_) (fun vs w hK => ⟨wants_none rfl, rho_in rfl (fv (hK 4 (memE rfl))), trivial⟩) rfl (fun wq hI => by exact op_mul (c := ((4 * q : Nat) : Int)) rfl rfl rfl (by rw [i64_id (by omega) (by omega)]; omega)) ?_
          refine w_val [(94, _), (96, _)] (_) (fun vs w hK => ⟨wants_none rfl, rho_in rfl (fv (hK 3 (memE rfl))), rho_in rfl (fv (hK 5 (memE rfl))), trivial⟩) rfl (fun wq hI => by exact run_int_sub (c := ((nb - 4 - 4 * q : Nat) : Int)) rfl rfl rfl (by rw [i64_id (by omega) (by omega)]; omega)) ?_
          refine w_move (.inl rfl) (fun vs w hK => ⟨wants_none rfl, rho_out rfl rfl⟩) ?_
          refine w_val [(98, _)] (_) (fun vs w hK => ⟨wants_none rfl, rho_in rfl (fv (hK 7 (memE rfl))), trivial⟩) rfl (fun wq hI => by exact op_mul (c := ((4 * j : Nat) : Int)) rfl rfl rfl (by rw [i64_id (by omega) (by omega)]; omega)) ?_
          refine w_val [(97, _), (99, _)] (_) (fun vs w hK => ⟨wants_none rfl, rho_in rfl (fv (hK 6 (memE rfl))), rho_in rfl (fv (hK 8 (memE rfl))), trivial⟩) rfl (fun wq hI => by exact run_int_add (c := ((nb - 4 - 4 * q + 4 * j : Nat) : Int)) rfl rfl rfl (by rw [i64_id (by omega) (by omega)]; omega)) ?_
          refine w_val [(91, _), (100, _)] (_) (fun vs w hK => ⟨wants_none rfl, rho_in rfl (fv (hK 0 (memE rfl))), rho_in rfl (fv (hK 9 (memE rfl))), trivial⟩) rfl (fun wq hI => by exact run_slice_op rfl rfl (HCU9.out wq)) ?_
          refine w_val [(101, _)] (_) (fun vs w hK => ⟨wants_none rfl, rho_in rfl (fv (hK 10 (memE rfl))), trivial⟩) rfl (fun wq hI => by exact run_slice_op rfl rfl (HCU10.out wq)) ?_
          refine w_call [(102, _)] _ _ (by decide) (fun vs w hK => ⟨wants_none rfl, rho_in rfl (fv (hK 11 (memE rfl))), trivial⟩) rfl rfl Try.func22 (by kernel_rfl) rfl (fun wq hI => HCL.out wq hI) (margs rfl) ?_
          refine w_val [(103, _)] (_) (fun vs w hK => ⟨wants_none rfl, rho_in rfl (fv (hK 12 (memE rfl))), trivial⟩) rfl (fun wq hI => by exact op_conv_int rfl Try.underlying32 Try.underlying3 rfl (i64_id (x := (a : Int)) (by omega) (by omega))) ?_
          refine w_move (.inr rfl) (fun vs w hK => ⟨wants_none rfl, rho_in rfl (fv (hK 13 (memE rfl)))⟩) ?_
          refine w_end rfl rfl rfl (fun vs wq hI hF => ?_)
          simp only [List.reverse_cons, List.reverse_nil, List.nil_append, List.cons_append, finL_val, finL_of, finL_any, finL_app, finL_new, finL_gr, finL_row, finL_box, finL_nil, Act.put, List.setIfInBounds_toArray, List.set_cons_zero, List.set_cons_succ, Nat.reduceAdd]
          have C0' := Lib.hid (below_cell hI C0.out)
          have C1' := Lib.hid (below_cell hI C1.out)
          have CN' := Lib.hid (below_cell hI CN.out)
          have HJ2 := Lib.hid (below_then HJ.out HJ.out.size hI)
          clear hI hF C0 C1 CN HCL HCU9 HCU10 HJ
          obtain ⟨w9, rfl⟩ : ∃ w9 : World, w9 = wq := ⟨_, rfl⟩
          go_upto_region 28 with fail
          refine draws_ (fun wq => Below w9.heap.size w9 wq) (fun _ => True) (by kernel_rfl) reg_6_28 rfl inv0 (fun _ _ _ _ => trivial) (below_drew (Below.refl _ _)) trivial ?_
          refine w_move (.inl rfl) (fun vs w hK => ⟨wants_none rfl, rho_out rfl rfl⟩) ?_
          refine w_move (.inl rfl) (fun vs w hK => ⟨wants_none rfl, rho_out rfl rfl⟩) ?_
          refine w_val [(105, _), (106, _)] (_) (fun vs w hK => ⟨wants_none rfl, rho_in rfl (fv (hK 0 (memE rfl))), rho_in rfl (fv (hK 1 (memE rfl))), trivial⟩) rfl (fun wq hI => by exact run_index_cell tb rfl rfl rfl rfl (by omega)) ?_
          refine w_val [(107, _)] (_) (fun vs w hK => ⟨wants_none rfl, rho_in rfl (fv (hK 2 (memE rfl))), trivial⟩) rfl (fun wq hI => by exact run_load_cell (v := .int .u8 0) rfl rfl rfl Try.underlying5 rfl (below_cell hI C0'.out)) ?_
          refine w_val [(108, _)] (_) (fun vs w hK => ⟨wants_none rfl, rho_in rfl (fv (hK 3 (memE rfl))), trivial⟩) rfl (fun wq hI => by exact run_int_neq (r := false) rfl rfl rfl rfl) ?_
          refine w_move (.inl rfl) (fun vs w hK => ⟨wants_none rfl, rho_in rfl (fv (hK 4 (memE rfl)))⟩) ?_
          refine w_move (.inl rfl) (fun vs w hK => ⟨wants_g rfl (fv (hK 5 (memE rfl))), rho_out rfl rfl⟩) ?_
          refine w_move (.inl rfl) (fun vs w hK => ⟨wants_g rfl (fv (hK 5 (memE rfl))), rho_out rfl rfl⟩) ?_
          refine w_val [(112, _)] (_) (fun vs w hK => ⟨wants_g rfl (fv (hK 5 (memE rfl))), rho_in rfl (fv (hK 7 (memE rfl))), trivial⟩) rfl (fun wq hI => by exact run_int_add (c := ((a + 1 : Nat) : Int)) rfl rfl rfl (by rw [i64_id (by omega) (by omega)]; omega)) ?_
          refine w_val [(111, _), (113, _)] (_) (fun vs w hK => ⟨wants_g rfl (fv (hK 5 (memE rfl))), rho_in rfl (fv (hK 6 (memE rfl))), rho_in rfl (fv (hK 8 (memE rfl))), trivial⟩) rfl (fun wq hI => by exact run_index_cell tb rfl rfl rfl rfl (by omega)) ?_
          refine w_val [(114, _)] (_) (fun vs w hK => ⟨wants_g rfl (fv (hK 5 (memE rfl))), rho_in rfl (fv (hK 9 (memE rfl))), trivial⟩) rfl (fun wq hI => by exact run_load_cell (v := .int .u8 ((5 + L : Nat) : Int)) rfl rfl rfl Try.underlying5 rfl (below_cell hI C1'.out)) ?_
          refine w_val [(115, _)] (_) (fun vs w hK => ⟨wants_g rfl (fv (hK 5 (memE rfl))), rho_in rfl (fv (hK 10 (memE rfl))), trivial⟩) rfl (fun wq hI => by exact op_conv_int rfl Try.underlying5 Try.underlying3 rfl (i64_id (x := ((5 + L : Nat) : Int)) (by omega) (by omega))) ?_
          refine w_move (.inl rfl) (fun vs w hK => ⟨wants_g rfl (fv (hK 5 (memE rfl))), rho_out rfl rfl⟩) ?_
          refine w_move (.inl rfl) (fun vs w hK => ⟨wants_g rfl (fv (hK 5 (memE rfl))), rho_out rfl rfl⟩) ?_
          refine w_val [(118, _)] (_) (fun vs w hK => ⟨wants_g rfl (fv (hK 5 (memE rfl))), rho_in rfl (fv (hK 13 (memE rfl))), trivial⟩) rfl (fun wq hI => by exact op_mul (c := ((8 * j : Nat) : Int)) rfl rfl rfl (by rw [i64_id (by omega) (by omega)]; omega)) ?_
          refine w_val [(117, _), (119, _)] (_) (fun vs w hK => ⟨wants_g rfl (fv (hK 5 (memE rfl))), rho_in rfl (fv (hK 12 (memE rfl))), rho_in rfl (fv (hK 14 (memE rfl))), trivial⟩) rfl (fun wq hI => by exact op_index_st sts22 rfl rfl rfl rfl h8j) ?_
          refine w_val [(120, _)] _ (fun vs w hK => ⟨wants_g rfl (fv (hK 5 (memE rfl))), rho_in rfl (fv (hK 15 (memE rfl))), trivial⟩) rfl (fun wq hI => by simp only [execOp, Option.map_some, Option.map_none, lk_tmp, lk_const, lkT_cons, ↓reduceIte, Nat.reduceEqDiff]; go_simp; (first | done | rfl)) ?_
          refine w_val [(121, _)] (_) (fun vs w hK => ⟨wants_g rfl (fv (hK 5 (memE rfl))), rho_in rfl (fv (hK 16 (memE rfl))), trivial⟩) rfl (fun wq hI => by exact run_load_cell (v := .string nm) rfl rfl rfl Try.underlying9 rfl (below_cell hI CN'.out)) ?_
          refine w_val [(122, _)] (_) (fun vs w hK => ⟨wants_g rfl (fv (hK 5 (memE rfl))), rho_in rfl (fv (hK 17 (memE rfl))), trivial⟩) rfl (fun wq hI => by exact run_len_str (n := ((5 + L : Nat) : Int)) rfl Try.underlying9 rfl (by rw [hsz])) ?_
          refine w_val [(116, _), (123, _)] (_) (fun vs w hK => ⟨wants_g rfl (fv (hK 5 (memE rfl))), rho_in rfl (fv (hK 11 (memE rfl))), rho_in rfl (fv (hK 18 (memE rfl))), trivial⟩) rfl (fun wq hI => by exact run_int_neq (r := false) rfl rfl rfl (by simp)) ?_
          refine w_pick (b := false) rfl (fun vs w hK => ⟨wants_none rfl, (rho_in rfl (fv (hK 5 (memE rfl)))), (rho_in rfl (fv (hK 19 (memE rfl))))⟩) ?_
          refine w_end rfl rfl rfl (fun vs wq hI hF => ?_)
          simp only [List.reverse_cons, List.reverse_nil, List.nil_append, List.cons_append, finL_val, finL_of, finL_any, finL_app, finL_new, finL_gr, finL_row, finL_box, finL_nil, Act.put, List.setIfInBounds_toArray, List.set_cons_zero, List.set_cons_succ, Nat.reduceAdd]
          have HJ3 := Lib.hid (below_then HJ2.out HJ2.out.size hI)
          clear hI hF
          go_wp2_with fail
          go_roundw
          case rel => exact ⟨j + 1, by omega, by go_num, HJ3⟩
          case measure => simp [intOf]; omega
        · obtain rfl : j = q := by omega
          have t2 : decide ((j : Int) < (j : Int)) = false := by simp
          have HF := Lib.hid (below_then HW8.out HW8.out.size HJ.out)
          go_wp2_with fail
          go_ret
          exact ⟨rfl, HF.out⟩
end Go.Proofs.Ytnkeijdpjcclcaa.Pg
-- KeyA
/- Contracts of package key: Compare, Check, Cmp. -/
namespace Go.Proofs.Ytnkeijdpjcclcaa.Key
set_option linter.unusedVariables false
set_option linter.unusedSimpArgs false
open Go.Proofs.Ytnkeijdpjcclcaa.Kit Go.Proofs.Ytnkeijdpjcclcaa.Num Go.RowKit Go.Proofs.YtnkeijdpjcclcaaW.PrintWords Go.Proofs.YtnkeijdpjcclcaaW.PrintLast Go.Proofs.YtnkeijdpjcclcaaW.PrintMore NumPure
/-- The order of texts. -/
def CB (a b : ByteArray) : Int := Lib.compareBytes a.data.toList b.data.toList
theorem cmpstr_any (a b : ByteArray) (w : World) : Calls Try.prog 70 #[.string a, .string b] w fun e w' => e = .returned (.int .i64 (CB a b)) ∧ w = w' := by
  go_enter Try.func70, Try.ntmps70
  go_wp2_with fail
  rw [run_callFunc_extern Try.func75 (by kernel_rfl) (by kernel_rfl) (by kernel_rfl) (e := Extern.BytealgCompare.compare) (by kernel_rfl), Lib.run_compareString]
  simp only [Result.andThen]
  rw [Oper.upon_value]
  go_wp2_with fail
  go_ret
  exact ⟨rfl, rfl⟩
theorem strcmp_any (a b : ByteArray) (w : World) : Calls Try.prog 58 #[.string a, .string b] w fun e w' => e = .returned (.int .i64 (CB a b)) ∧ w = w' := by
  have C1 := Lib.hid (cmpstr_any a b w)
  go_enter Try.func58, Try.ntmps58
  go_wp2_with fail
  refine C1.out.mono ?_
  rintro e w' ⟨rfl, rfl⟩
  go_wp2_with fail
  go_ret
  exact ⟨rfl, rfl⟩
theorem isEmpty_size (V : ByteArray) : V.toList.isEmpty = decide (V.size = 0) := by
  rw [ByteArray.toList_eq]
  have h : V.size = V.data.toList.length := rfl
  rw [h]
  cases V.data.toList <;> simp
/-- An entry. -/
structure Ent where
  key : ByteArray
  seq : Nat
  del : Bool
  val : ByteArray
def Ent.cells (x : Ent) : List Value := [.string x.key, .int .u64 x.seq, .bool x.del, .string x.val]
def Ent.ag (x : Ent) : Value := .agg x.cells.toArray
def Ent.check (x : Ent) : Nat := if x.key.size = 0 ∨ 72057594037927935 < x.seq ∨ (x.del = true ∧ x.val.size ≠ 0) then 1 else if 128 < x.key.size ∨ 65536 < x.val.size then 6 else 0
def Ent.cmp (x y : Ent) : Int := if CB x.key y.key ≠ 0 then CB x.key y.key else if y.seq < x.seq then -1 else if x.seq < y.seq then 1 else 0
def Ent.ok (x : Ent) : Prop := x.seq < 18446744073709551616 ∧ x.key.size ≤ 9223372036854775807 ∧ x.val.size ≤ 9223372036854775807
set_option maxHeartbeats 1600000 in
theorem check_any (x : Ent) (hx : x.ok) (w : World) : Calls Try.prog 31 #[x.ag] w fun e w' => e = .returned (.int .i64 x.check) ∧ Below w.heap.size w w' := by
  obtain ⟨K, s, d, V⟩ := x
  obtain ⟨h1, h2, h3⟩ := hx
  simp only [Ent.ag, Ent.cells] at h1 h2 h3 ⊢
  by_cases g1 : K.size = 0
  · have t1 : ((K.size : Int) == 0) = true := by rw [g1]; rfl
    have H : Hid ((Ent.mk K s d V).check = 1) := Lib.hid (if_pos (.inl g1))
    clear h1
    go_enter Try.func31, Try.ntmps31
    go_wp2_with fail
    go_ret
    exact ⟨by rw [H.out]; rfl, below_alloc (Below.refl _ _) _⟩
  have t1 : ((K.size : Int) == 0) = false := by rw [beq_eq_false_iff_ne]; omega
  by_cases g2 : 72057594037927935 < s
  · have I2 : (72057594037927935 : Int) < (s : Int) ↔ True := ⟨fun _ => trivial, fun _ => by omega⟩
    have H : Hid ((Ent.mk K s d V).check = 1) := Lib.hid (if_pos (.inr (.inl g2)))
    clear h1 g2
    go_enter Try.func31, Try.ntmps31
    go_wp2_with fail
    go_ret
    exact ⟨by rw [H.out]; rfl, below_alloc (Below.refl _ _) _⟩
  have I2 : (72057594037927935 : Int) < (s : Int) ↔ False := ⟨fun h => by omega, fun h => h.elim⟩
  have hve : (!V.toList.isEmpty) = !decide (V.size = 0) := by rw [isEmpty_size V]
  cases d
  · clear hve
    by_cases g5 : 128 < K.size
    · have t5 : decide ((128 : Int) < (K.size : Int)) = true := decide_eq_true (by omega)
      have H : Hid ((Ent.mk K s false V).check = 6) := Lib.hid (by unfold Ent.check; rw [if_neg (fun h => h.elim g1 (fun h => h.elim g2 (fun h => by cases h.1))), if_pos (.inl g5)])
      clear h1 g2
      go_enter Try.func31, Try.ntmps31
      go_wp2_with fail
      go_ret
      exact ⟨by rw [H.out]; rfl, below_alloc (Below.refl _ _) _⟩
    have t5 : decide ((128 : Int) < (K.size : Int)) = false := decide_eq_false (by omega)
    by_cases g6 : 65536 < V.size
    · have t6 : decide ((65536 : Int) < (V.size : Int)) = true := decide_eq_true (by omega)
      have H : Hid ((Ent.mk K s false V).check = 6) := Lib.hid (by unfold Ent.check; rw [if_neg (fun h => h.elim g1 (fun h => h.elim g2 (fun h => by cases h.1))), if_pos (.inr g6)])
      clear h1 g2
      go_enter Try.func31, Try.ntmps31
      go_wp2_with fail
      go_ret
      exact ⟨by rw [H.out]; rfl, below_alloc (Below.refl _ _) _⟩
    have t6 : decide ((65536 : Int) < (V.size : Int)) = false := decide_eq_false (by omega)
    have H : Hid ((Ent.mk K s false V).check = 0) := Lib.hid (by unfold Ent.check; rw [if_neg (fun h => h.elim g1 (fun h => h.elim g2 (fun h => by cases h.1))), if_neg (fun h => h.elim g5 g6)])
    clear h1 g2
    go_enter Try.func31, Try.ntmps31
    go_wp2_with fail
    go_ret
    exact ⟨by rw [H.out]; rfl, below_alloc (Below.refl _ _) _⟩
  · by_cases g3 : V.size = 0
    · rw [decide_eq_true g3] at hve
      by_cases g5 : 128 < K.size
      · have t5 : decide ((128 : Int) < (K.size : Int)) = true := decide_eq_true (by omega)
        have H : Hid ((Ent.mk K s true V).check = 6) := Lib.hid (by unfold Ent.check; rw [if_neg (fun h => h.elim g1 (fun h => h.elim g2 (fun h => h.2 g3))), if_pos (.inl g5)])
        clear h1 g2
        go_enter Try.func31, Try.ntmps31
        go_wp2_with fail
        go_ret
        exact ⟨by rw [H.out]; rfl, below_alloc (Below.refl _ _) _⟩
      have t5 : decide ((128 : Int) < (K.size : Int)) = false := decide_eq_false (by omega)
      by_cases g6 : 65536 < V.size
      · exact absurd g6 (by omega)
      have t6 : decide ((65536 : Int) < (V.size : Int)) = false := decide_eq_false (by omega)
      have H : Hid ((Ent.mk K s true V).check = 0) := Lib.hid (by unfold Ent.check; rw [if_neg (fun h => h.elim g1 (fun h => h.elim g2 (fun h => h.2 g3))), if_neg (fun h => h.elim g5 g6)])
      clear h1 g2
      go_enter Try.func31, Try.ntmps31
      go_wp2_with fail
      go_ret
      exact ⟨by rw [H.out]; rfl, below_alloc (Below.refl _ _) _⟩
    · rw [decide_eq_false g3] at hve
      have H : Hid ((Ent.mk K s true V).check = 1) := Lib.hid (if_pos (.inr (.inr ⟨rfl, g3⟩)))
      clear h1 g2
      go_enter Try.func31, Try.ntmps31
      go_wp2_with fail
      go_ret
      exact ⟨by rw [H.out]; rfl, below_alloc (Below.refl _ _) _⟩
set_option maxHeartbeats 1600000 in
theorem cmp_any (x y : Ent) (hx : x.ok) (hy : y.ok) (w : World) : Calls Try.prog 32 #[x.ag, y.ag] w fun e w' => e = .returned (.int .i64 (x.cmp y)) ∧ Below w.heap.size w w' := by
  obtain ⟨K, s, d, V⟩ := x
  obtain ⟨K2, s2, d2, V2⟩ := y
  obtain ⟨h1, h2, h3⟩ := hx
  obtain ⟨j1, j2, j3⟩ := hy
  simp only [Ent.ag, Ent.cells] at h1 h2 h3 j1 j2 j3 ⊢
  have C1 := Lib.hid (fun w => strcmp_any K K2 w)
  have HB : Hid (∀ a b, Below w.heap.size w ((w.alloc a).alloc b)) := Lib.hid (fun a b => below_alloc (below_alloc (Below.refl _ _) _) _)
  have HC : Hid (Ent.cmp ⟨K, s, d, V⟩ ⟨K2, s2, d2, V2⟩ = if CB K K2 ≠ 0 then CB K K2 else if s2 < s then -1 else if s < s2 then 1 else 0) := Lib.hid rfl
  generalize CB K K2 = q at C1 HC
  clear h1 j1
  by_cases g1 : q = 0
  · subst g1
    rw [if_neg (by simp)] at HC
    rcases Nat.lt_trichotomy s s2 with g | g | g
    · have t1 : decide ((s2 : Int) < (s : Int)) = false := decide_eq_false (by omega)
      have t2 : decide ((s : Int) < (s2 : Int)) = true := decide_eq_true (by omega)
      rw [if_neg (by omega), if_pos g] at HC
      go_enter Try.func32, Try.ntmps32
      go_wp2_with fail
      refine (C1.out _).mono ?_
      rintro e w' ⟨rfl, rfl⟩
      go_wp2_with fail
      go_ret
      exact ⟨by rw [HC.out]; rfl, HB.out _ _⟩
    · subst g
      have t1 : decide ((s : Int) < (s : Int)) = false := by simp
      rw [if_neg (by omega), if_neg (by omega)] at HC
      go_enter Try.func32, Try.ntmps32
      go_wp2_with fail
      refine (C1.out _).mono ?_
      rintro e w' ⟨rfl, rfl⟩
      go_wp2_with fail
      go_ret
      exact ⟨by rw [HC.out]; rfl, HB.out _ _⟩
    · have t1 : decide ((s2 : Int) < (s : Int)) = true := decide_eq_true (by omega)
      rw [if_pos g] at HC
      go_enter Try.func32, Try.ntmps32
      go_wp2_with fail
      refine (C1.out _).mono ?_
      rintro e w' ⟨rfl, rfl⟩
      go_wp2_with fail
      go_ret
      exact ⟨by rw [HC.out]; rfl, HB.out _ _⟩
  · have t1 : (q == 0) = false := by simpa using g1
    rw [if_pos g1] at HC
    go_enter Try.func32, Try.ntmps32
    go_wp2_with fail
    refine (C1.out _).mono ?_
    rintro e w' ⟨rfl, rfl⟩
    go_wp2_with fail
    go_ret
    exact ⟨by rw [HC.out]; rfl, HB.out _ _⟩
end Go.Proofs.Ytnkeijdpjcclcaa.Key
-- KeyD
/- The order of entries: plain laws. -/
namespace Go.Proofs.Ytnkeijdpjcclcaa.Key
set_option linter.unusedVariables false
set_option linter.unusedSimpArgs false
open Go.Proofs.Ytnkeijdpjcclcaa.Kit Go.RowKit
open Lib (compareBytes)
theorem cb_anti : ∀ a b : List UInt8, compareBytes a b = - compareBytes b a
  | [], [] => rfl
  | [], _ :: _ => rfl
  | _ :: _, [] => rfl
  | x :: a, y :: b => by
    have ih := cb_anti a b
    simp only [compareBytes]
    by_cases h1 : x < y
    · have h2 : ¬ y < x := UInt8.lt_asymm h1
      simp [h1, h2]
    · by_cases h2 : y < x
      · simp [h1, h2]
      · simp only [h1, h2, if_false]
        exact ih
theorem cb_zero : ∀ a b : List UInt8, compareBytes a b = 0 ↔ a = b
  | [], [] => by simp [compareBytes]
  | [], _ :: _ => by simp [compareBytes]
  | _ :: _, [] => by simp [compareBytes]
  | x :: a, y :: b => by
    have ih := cb_zero a b
    simp only [compareBytes]
    by_cases h1 : x < y
    · have hne : x ≠ y := UInt8.ne_of_lt h1
      simp [h1, hne]
    · by_cases h2 : y < x
      · have hne : x ≠ y := fun e => by subst e; exact UInt8.lt_irrefl _ h2
        simp [h1, h2, hne]
      · have he : x = y := UInt8.le_antisymm (UInt8.not_lt.1 h2) (UInt8.not_lt.1 h1)
        subst he
        simp only [h1, if_false]
        rw [ih]
        simp
theorem cb_val : ∀ a b : List UInt8, compareBytes a b = -1 ∨ compareBytes a b = 0 ∨ compareBytes a b = 1
  | [], [] => by simp [compareBytes]
  | [], _ :: _ => by simp [compareBytes]
  | _ :: _, [] => by simp [compareBytes]
  | x :: a, y :: b => by
    have ih := cb_val a b
    simp only [compareBytes]
    by_cases h1 : x < y
    · simp [h1]
    · by_cases h2 : y < x
      · simp [h1, h2]
      · simp only [h1, h2, if_false]
        exact ih
theorem cb_trans : ∀ a b c : List UInt8, compareBytes a b = -1 → compareBytes b c = -1 → compareBytes a c = -1
  | [], [], _, h, _ => by simp [compareBytes] at h
  | [], _ :: _, [], _, h => by simp [compareBytes] at h
  | [], _ :: _, _ :: _, _, _ => rfl
  | _ :: _, [], _, h, _ => by simp [compareBytes] at h
  | _ :: _, _ :: _, [], _, h => by simp [compareBytes] at h
  | x :: a, y :: b, z :: c, h1, h2 => by
    have ih := cb_trans a b c
    simp only [compareBytes] at h1 h2 ⊢
    by_cases g1 : x < y
    · by_cases g2 : y < z
      · rw [if_pos (UInt8.lt_trans g1 g2)]
      · rw [if_neg g2] at h2
        by_cases g3 : z < y
        · rw [if_pos g3] at h2; simp at h2
        · have he : y = z := UInt8.le_antisymm (UInt8.not_lt.1 g3) (UInt8.not_lt.1 g2)
          subst he
          rw [if_pos g1]
    · rw [if_neg g1] at h1
      by_cases g3 : y < x
      · rw [if_pos g3] at h1; simp at h1
      · rw [if_neg g3] at h1
        have he : x = y := UInt8.le_antisymm (UInt8.not_lt.1 g3) (UInt8.not_lt.1 g1)
        subst he
        by_cases g2 : x < z
        · rw [if_pos g2]
        · rw [if_neg g2] at h2 ⊢
          by_cases g4 : z < x
          · rw [if_pos g4] at h2; simp at h2
          · rw [if_neg g4] at h2 ⊢
            exact ih h1 h2
theorem cb_less : ∀ a b : List UInt8, Op.bytesLess a b = decide (compareBytes a b < 0)
  | [], [] => by simp [Op.bytesLess, compareBytes]
  | [], _ :: _ => by simp [Op.bytesLess, compareBytes]
  | _ :: _, [] => by simp [Op.bytesLess, compareBytes]
  | x :: a, y :: b => by
    have ih := cb_less a b
    simp only [Op.bytesLess, compareBytes]
    by_cases g1 : x < y
    · simp [g1]
    · by_cases g3 : y < x
      · have hne : x ≠ y := fun e => by subst e; exact UInt8.lt_irrefl _ g3
        simp [g1, g3, hne]
      · have he : x = y := UInt8.le_antisymm (UInt8.not_lt.1 g3) (UInt8.not_lt.1 g1)
        subst he
        simp only [g1, if_false, ih]
        simp
theorem ba_ext {a b : ByteArray} (h : a.data.toList = b.data.toList) : a = b := ByteArray.ext (Array.toList_inj.1 h)
theorem CB_zero (a b : ByteArray) : CB a b = 0 ↔ a = b := by
  unfold CB
  rw [cb_zero]
  exact ⟨ba_ext, fun h => by rw [h]⟩
theorem Ent.cmp_anti (x y : Ent) : y.cmp x = - x.cmp y := by
  have h := cb_anti x.key.data.toList y.key.data.toList
  unfold Ent.cmp CB
  rw [h]
  generalize compareBytes y.key.data.toList x.key.data.toList = q
  by_cases h0 : q = 0
  · subst h0
    simp only [Int.neg_zero, ne_eq, not_true, if_false]
    by_cases g1 : x.seq < y.seq
    · rw [if_pos g1, if_neg (by omega), if_pos g1]
    · by_cases g2 : y.seq < x.seq
      · rw [if_neg g1, if_pos g2, if_pos g2]; rfl
      · rw [if_neg g1, if_neg g2, if_neg g2, if_neg g1]; rfl
  · rw [if_pos h0, if_pos (by omega)]; omega
theorem Ent.cmp_zero (x y : Ent) : x.cmp y = 0 ↔ x.key = y.key ∧ x.seq = y.seq := by
  have h := CB_zero x.key y.key
  unfold Ent.cmp
  by_cases h0 : CB x.key y.key = 0
  · rw [if_neg (by simpa using h0)]
    by_cases g1 : y.seq < x.seq
    · rw [if_pos g1]
      exact ⟨fun e => absurd e (by decide), fun e => by omega⟩
    · by_cases g2 : x.seq < y.seq
      · rw [if_neg g1, if_pos g2]
        exact ⟨fun e => absurd e (by decide), fun e => by omega⟩
      · rw [if_neg g1, if_neg g2]
        exact ⟨fun _ => ⟨h.1 h0, by omega⟩, fun _ => rfl⟩
  · rw [if_pos h0]
    exact ⟨fun e => absurd e h0, fun e => absurd (h.2 e.1) h0⟩
theorem Ent.cmp_key (x y : Ent) (hne : x.key ≠ y.key) : x.cmp y = CB x.key y.key := by
  unfold Ent.cmp
  rw [if_pos (fun h => hne ((CB_zero _ _).1 h))]
theorem Ent.cmp_trans (x y z : Ent) (h1 : x.cmp y < 0) (h2 : y.cmp z < 0) : x.cmp z < 0 := by
  have v1 := cb_val x.key.data.toList y.key.data.toList
  have v2 := cb_val y.key.data.toList z.key.data.toList
  by_cases k1 : x.key = y.key
  · by_cases k2 : y.key = z.key
    · have c1 : CB x.key y.key = 0 := (CB_zero _ _).2 k1
      have c2 : CB y.key z.key = 0 := (CB_zero _ _).2 k2
      have c3 : CB x.key z.key = 0 := (CB_zero _ _).2 (k1.trans k2)
      unfold Ent.cmp at h1 h2 ⊢
      rw [if_neg (by simpa using c1)] at h1
      rw [if_neg (by simpa using c2)] at h2
      rw [if_neg (by simpa using c3)]
      have g1 : y.seq < x.seq := by
        rcases Nat.lt_or_ge y.seq x.seq with g | g
        · exact g
        · rw [if_neg (by omega)] at h1; split at h1 <;> omega
      have g2 : z.seq < y.seq := by
        rcases Nat.lt_or_ge z.seq y.seq with g | g
        · exact g
        · rw [if_neg (by omega)] at h2; split at h2 <;> omega
      rw [if_pos (by omega)]; omega
    · rw [Ent.cmp_key x z (by rw [k1]; exact k2), k1]
      rw [Ent.cmp_key y z k2] at h2
      exact h2
  · rw [Ent.cmp_key x y k1] at h1
    by_cases k2 : y.key = z.key
    · rw [Ent.cmp_key x z (by rw [← k2]; exact k1), ← k2]
      exact h1
    · rw [Ent.cmp_key y z k2] at h2
      have t := cb_trans x.key.data.toList y.key.data.toList z.key.data.toList (by unfold CB at h1; omega) (by unfold CB at h2; omega)
      have k3 : x.key ≠ z.key := fun e => by
        rw [e] at t
        have := (cb_zero z.key.data.toList z.key.data.toList).2 rfl
        omega
      rw [Ent.cmp_key x z k3]
      unfold CB
      omega
theorem Ent.cmp_less (x y : Ent) (hne : x.key ≠ y.key) : Op.bytesLess x.key.toList y.key.toList = decide (x.cmp y < 0) := by
  rw [Ent.cmp_key x y hne, ByteArray.toList_eq, ByteArray.toList_eq, cb_less]
  rfl
theorem Ent.cmp_val (x y : Ent) : -1 ≤ x.cmp y ∧ x.cmp y ≤ 1 := by
  have v1 := cb_val x.key.data.toList y.key.data.toList
  unfold Ent.cmp CB
  split
  · omega
  · split
    · omega
    · split <;> omega
end Go.Proofs.Ytnkeijdpjcclcaa.Key
-- KeyB
/- Contracts of package key: Inner. -/
namespace Go.Proofs.Ytnkeijdpjcclcaa.Key
set_option linter.unusedVariables false
set_option linter.unusedSimpArgs false
open Go.Proofs.Ytnkeijdpjcclcaa.Kit Go.Proofs.Ytnkeijdpjcclcaa.Num Go.RowKit Go.Proofs.YtnkeijdpjcclcaaW.PrintWords Go.Proofs.YtnkeijdpjcclcaaW.PrintLast Go.Proofs.YtnkeijdpjcclcaaW.PrintMore NumPure
def esc (l : List Int) : List Int := l.flatMap fun c => if c = 0 then [0, 255] else [c]
theorem esc_snoc (l : List Int) (c : Int) : esc (l ++ [c]) = esc l ++ (if c = 0 then [0, 255] else [c]) := by simp [esc]
theorem esc_length (l : List Int) : (esc l).length ≤ 2 * l.length := by
  induction l with
  | nil => simp [esc]
  | cons c r ih =>
    have h : (esc (c :: r)).length = (if c = 0 then [(0 : Int), 255] else [c]).length + (esc r).length := by simp [esc]
    rw [h, List.length_cons]
    split <;> simp <;> omega
/-- The number that tells an entry's number and kind. -/
def Ent.num (x : Ent) : Nat := (2 * x.seq) % 18446744073709551616 + (if x.del then 0 else 1)
theorem num_lt (x : Ent) : x.num < 18446744073709551616 := by
  unfold Ent.num
  split <;> omega
def Ent.flip (x : Ent) : Nat := 18446744073709551615 - x.num
def Ent.inL (x : Ent) : List Int := esc (numsOf x.key) ++ [0, 1] ++ be x.flip 8
def Ent.inner (x : Ent) : ByteArray := strOfNums x.inL
theorem inL_length (x : Ent) : x.inL.length = (esc (numsOf x.key)).length + 10 := by simp [Ent.inL, be_length]
theorem u64_not (u : Nat) (hu : u < 18446744073709551616) : Go.bits .xor .u64 IntKind.u64.max (u : Int) = ((18446744073709551615 - u : Nat) : Int) := by
  have h1 : BitVec.ofInt 64 IntKind.u64.max = BitVec.allOnes 64 := by decide
  show IntKind.u64.wrap (((BitVec.ofInt 64 IntKind.u64.max) ^^^ BitVec.ofInt 64 (u : Int)).toNat : Int) = _
  rw [h1, BitVec.ofInt_natCast, BitVec.allOnes_xor, BitVec.toNat_not, BitVec.toNat_ofNat, Nat.mod_eq_of_lt hu]
  simp [IntKind.wrap, IntKind.signed, IntKind.bits]
  omega
set_option maxRecDepth 20000 in
set_option maxHeartbeats 3200000 in
theorem inner_any (x : Ent) (hx : x.ok) (hkk : x.key.size ≤ 70000) (w : World) : Calls Try.prog 59 #[x.ag] w fun e w' => e = .returned (.string x.inner) ∧ Below w.heap.size w w' := by
  have hfl : x.flip < 18446744073709551616 := by have := num_lt x; unfold Ent.flip; omega
  have HIN : Hid (x.inner = strOfNums (esc (numsOf x.key) ++ [0, 1] ++ be x.flip 8)) := Lib.hid rfl
  have HFL : Hid (x.flip = 18446744073709551615 - ((2 * x.seq) % 18446744073709551616 + (if x.del then 0 else 1))) := Lib.hid rfl
  obtain ⟨K, s, d, V⟩ := x
  obtain ⟨h1, h2, h3⟩ := hx
  generalize Ent.flip ⟨K, s, d, V⟩ = f at HIN HFL hfl
  generalize Ent.inner ⟨K, s, d, V⟩ = R at HIN ⊢
  simp only [Ent.ag, Ent.cells] at h1 h2 h3 hkk HIN HFL ⊢
  have hba : Below w.heap.size w (w.alloc (.cells #[.string K, .int .u64 s, .bool d, .string V] 61)) := below_alloc (Below.refl _ _) _
  obtain ⟨v1, w1, hcv, hb1, ho1, _⟩ := conv_bytes (t := 25) Try.underlying9 Try.underlying25 Try.underlying5 (w.alloc (.cells #[.string K, .int .u64 s, .bool d, .string V] 61)) K (by simp only [maxLen]; omega) hba.size
  have HBA := Lib.hid (below_then hba hba.size hb1)
  obtain ⟨A1, n1, c1, rfl, h1c, HL1, h1m, hr1⟩ := gr_open ho1
  have hn1 : n1 = K.size := by rw [← HL1.out, numsOf_length]
  have hn7 : n1 ≤ 70000 := by omega
  clear hn1
  have hbt := numsOf_byte K
  generalize numsOf K = L at hr1 HL1 HIN hbt
  have HR1 := Lib.hid hr1
  have HBT := Lib.hid hbt
  obtain ⟨u, hu⟩ : ∃ u : Nat, u = (2 * s) % 18446744073709551616 := ⟨_, rfl⟩
  have hu2 : IntKind.u64.wrap ((s : Int) * 2) = (u : Int) := by rw [hu]; simp [IntKind.wrap, IntKind.signed, IntKind.bits]; omega
  have hul : u < 18446744073709551616 := by omega
  obtain ⟨g, hg⟩ : ∃ g : Nat, g = u + 1 := ⟨_, rfl⟩
  have hor : Go.bits .or .u64 (u : Int) 1 = (g : Int) := by
    have h := u64_or_nat u 1 hul (by omega)
    rw [show ((1 : Nat) : Int) = 1 from rfl] at h
    rw [h]
    congr 1
    have h2 := Nat.two_pow_add_eq_or_of_lt (i := 1) (b := 1) (by omega) (u / 2)
    have h3 : 2 ^ 1 * (u / 2) = u := by omega
    rw [h3] at h2
    rw [hg]
    exact h2.symm
  have hgl : g < 18446744073709551616 := by omega
  have HG := Lib.hid hg
  have HUL := Lib.hid hul
  have HGL := Lib.hid hgl
  have HFF := Lib.hid hfl
  have HU := Lib.hid hu
  clear ho1 hr1 hbt hu hba hb1 hg hul hgl hfl h1
  go_enter Try.func59, Try.ntmps59
  cases d
  · have hnot : Go.bits .xor .u64 IntKind.u64.max (g : Int) = (f : Int) := by rw [u64_not _ HGL.out, HFL.out]; congr 1; have := HU.out; have := HG.out; simp; omega
    go_wp2_with fail
    go_loopw [4, 19] (fun b i wr => ∃ (k : Nat) (v : Value), v = b ∧ i = .int .i64 k ∧ k ≤ n1 ∧ Hid (GrB wr w1.heap.size v (esc (L.take k))) ∧ Hid (Below w1.heap.size w1 wr)) (fun _ i _ => n1 - (intOf i).toNat)
    case atStart => exact ⟨0, _, rfl, rfl, Nat.zero_le _, Lib.hid (gr_nil _ _ _), Lib.hid (Below.refl _ _)⟩
    case round =>
      obtain ⟨k, v, hv, rfl, hk, HO, HB⟩ := hrel
      subst hv
      have hel := esc_length (L.take k)
      rw [List.length_take, HL1.out] at hel
      by_cases hlt : k < n1
      · have t2 : decide ((k : Int) < (n1 : Int)) = true := decide_eq_true (by omega)
        obtain ⟨ad, e1, hc1⟩ := rds_at 0 (rds_below HR1.out HB.out) k hlt
        subst e1
        obtain ⟨c, hc, hcl⟩ := getD_nat HBT.out k
        rw [hc] at hc1
        have hsn : esc (L.take (k + 1)) = esc (L.take k) ++ (if (c : Int) = 0 then [0, 255] else [(c : Int)]) := by
          rw [List.take_succ_eq_append_getElem (by rw [HL1.out]; exact hlt), esc_snoc]
          rw [List.getD_eq_getElem?_getD, List.getElem?_eq_getElem (by rw [HL1.out]; exact hlt)] at hc
          simp only [Option.getD_some] at hc
          rw [hc]
        have i0 : (0 : Int) ≤ (k : Int) := by omega
        have i1 : (k : Int) < (n1 : Int) := by omega
        clear hc
        by_cases hz : c = 0
        · subst hz
          rw [if_pos (show ((0 : Nat) : Int) = 0 from rfl)] at hsn
          have HSN := Lib.hid hsn
          clear hsn
          go_wp2_with (first
            | (at_builtin; refine gapp_one (enc := Value.int .u8) (h1 := int_one .u8) tb (p := (0 : Int)) rfl (.tmp 23) (.tmp 25) rfl rfl rfl HO.out HB.out HB.out.size ?cL ?_; (case cL => omega); intro v6 w6 ho hb6 hs1 hf; have HO6 : Hid (GrB w6 w1.heap.size v6 (esc (L.take k) ++ [0])) := Lib.hid ho; have HB6 : Hid (Below w1.heap.size w1 w6) := Lib.hid hb6; clear ho hb6 hs1 hf)
            | (at_builtin; refine gapp_one (enc := Value.int .u8) (h1 := int_one .u8) tb (p := (255 : Int)) rfl (.tmp 29) (.tmp 30) rfl rfl rfl HO6.out HB6.out HB6.out.size ?cL ?_; (case cL => simp; omega); intro v7 w7 ho hb6 hs1 hf; have HO7 : Hid (GrB w7 w1.heap.size v7 (esc (L.take (k + 1)))) := Lib.hid (by rw [HSN.out, show ([0, 255] : List Int) = [0] ++ [255] from rfl, ← List.append_assoc]; exact ho); have HB7 : Hid (Below w1.heap.size w1 w7) := Lib.hid hb6; clear ho hb6 hs1 hf))
          go_roundw
          case rel => exact ⟨k + 1, _, rfl, by go_num, by omega, HO7, HB7⟩
          case measure => simp [intOf]; omega
        · have t3 : ((c : Int) == 0) = false := by simp; omega
          rw [if_neg (by omega)] at hsn
          have HSN := Lib.hid hsn
          have HZ := Lib.hid hz
          clear hsn hz
          go_wp2_with (at_builtin; refine gapp_one (enc := Value.int .u8) (h1 := int_one .u8) tb (p := (c : Int)) rfl (.tmp 23) (.tmp 25) rfl rfl rfl HO.out HB.out HB.out.size ?cL ?_; (case cL => omega); intro v6 w6 ho hb6 hs1 hf; have HO6 : Hid (GrB w6 w1.heap.size v6 (esc (L.take (k + 1)))) := Lib.hid (by rw [HSN.out]; exact ho); have HB6 : Hid (Below w1.heap.size w1 w6) := Lib.hid hb6; clear ho hb6 hs1 hf)
          go_roundw
          case rel => exact ⟨k + 1, _, rfl, by go_num, by omega, HO6, HB6⟩
          case measure => simp [intOf]; omega
      · obtain rfl : k = n1 := by omega
        have t2 : decide ((k : Int) < (k : Int)) = false := by simp
        have htk : L.take k = L := List.take_of_length_le (by rw [HL1.out]; exact Nat.le_refl _)
        have HO' : Hid (GrB wr w1.heap.size v (esc L)) := Lib.hid (by have := HO.out; rwa [htk] at this)
        rw [htk] at hel
        have C2 := Lib.hid (fun wq v xs a b c => putBig_any f 8 HFF.out v xs w1 wq a b c)
        have hlit : Rds .u8 (wr.alloc (.cells #[.int .u8 0, .int .u8 1] 5)) (some ⟨wr.heap.size, 0, none⟩) 2 [0, 1] := rds_lit wr 5 (0, 0) 0 [0, 1] (by simp) 2 rfl
        have HLIT := Lib.hid hlit
        have HOL := Lib.hid (gr_below HO'.out (below_alloc (Below.refl _ _) (.cells #[.int .u8 0, .int .u8 1] 5)))
        have HBL := Lib.hid (below_alloc HB.out (.cells #[.int .u8 0, .int .u8 1] 5))
        clear hlit htk HO HO'
        go_wp2_with (at_builtin; refine gapp_row tb rfl (.tmp 33) (.tmp 34) rfl rfl rfl HOL.out HLIT.out HBL.out HBL.out.size ?cL ?_; (case cL => omega); intro v6 w6 ho hb6 hs1 hf; have HO6 : Hid (GrB w6 w1.heap.size v6 (esc L ++ [0, 1])) := Lib.hid ho; have HB6 : Hid (Below w1.heap.size w1 w6) := Lib.hid hb6; clear ho hb6 hs1 hf)
        have hxl : (esc L ++ [0, 1]).length + 8 ≤ 140737488355328 := by rw [List.length_append]; simp; omega
        refine (C2.out w6 v6 _ HO6.out HB6.out hxl).mono ?_
        rintro e w7 ⟨v7, rfl, hA⟩
        have hcv2 := conv_gr (dst := 9) tb Try.underlying5 Try.underlying9 hA.own
        rw [show min (Int.toNat 8) 8 = 8 from rfl, ← HIN.out] at hcv2
        have HB7 := Lib.hid (below_then HBA.out HBA.out.size hA.bel)
        clear hA C2 hxl
        go_wp2_with fail
        go_ret
        exact ⟨rfl, HB7.out⟩
  · have hnot : Go.bits .xor .u64 IntKind.u64.max (u : Int) = (f : Int) := by rw [u64_not _ HUL.out, HFL.out]; congr 1; have := HU.out; have := HG.out; simp; omega
    go_wp2_with fail
    go_loopw [4, 19] (fun b i wr => ∃ (k : Nat) (v : Value), v = b ∧ i = .int .i64 k ∧ k ≤ n1 ∧ Hid (GrB wr w1.heap.size v (esc (L.take k))) ∧ Hid (Below w1.heap.size w1 wr)) (fun _ i _ => n1 - (intOf i).toNat)
    case atStart => exact ⟨0, _, rfl, rfl, Nat.zero_le _, Lib.hid (gr_nil _ _ _), Lib.hid (Below.refl _ _)⟩
    case round =>
      obtain ⟨k, v, hv, rfl, hk, HO, HB⟩ := hrel
      subst hv
      have hel := esc_length (L.take k)
      rw [List.length_take, HL1.out] at hel
      by_cases hlt : k < n1
      · have t2 : decide ((k : Int) < (n1 : Int)) = true := decide_eq_true (by omega)
        obtain ⟨ad, e1, hc1⟩ := rds_at 0 (rds_below HR1.out HB.out) k hlt
        subst e1
        obtain ⟨c, hc, hcl⟩ := getD_nat HBT.out k
        rw [hc] at hc1
        have hsn : esc (L.take (k + 1)) = esc (L.take k) ++ (if (c : Int) = 0 then [0, 255] else [(c : Int)]) := by
          rw [List.take_succ_eq_append_getElem (by rw [HL1.out]; exact hlt), esc_snoc]
          rw [List.getD_eq_getElem?_getD, List.getElem?_eq_getElem (by rw [HL1.out]; exact hlt)] at hc
          simp only [Option.getD_some] at hc
          rw [hc]
        have i0 : (0 : Int) ≤ (k : Int) := by omega
        have i1 : (k : Int) < (n1 : Int) := by omega
        clear hc
        by_cases hz : c = 0
        · subst hz
          rw [if_pos (show ((0 : Nat) : Int) = 0 from rfl)] at hsn
          have HSN := Lib.hid hsn
          clear hsn
          go_wp2_with (first
            | (at_builtin; refine gapp_one (enc := Value.int .u8) (h1 := int_one .u8) tb (p := (0 : Int)) rfl (.tmp 23) (.tmp 25) rfl rfl rfl HO.out HB.out HB.out.size ?cL ?_; (case cL => omega); intro v6 w6 ho hb6 hs1 hf; have HO6 : Hid (GrB w6 w1.heap.size v6 (esc (L.take k) ++ [0])) := Lib.hid ho; have HB6 : Hid (Below w1.heap.size w1 w6) := Lib.hid hb6; clear ho hb6 hs1 hf)
            | (at_builtin; refine gapp_one (enc := Value.int .u8) (h1 := int_one .u8) tb (p := (255 : Int)) rfl (.tmp 29) (.tmp 30) rfl rfl rfl HO6.out HB6.out HB6.out.size ?cL ?_; (case cL => simp; omega); intro v7 w7 ho hb6 hs1 hf; have HO7 : Hid (GrB w7 w1.heap.size v7 (esc (L.take (k + 1)))) := Lib.hid (by rw [HSN.out, show ([0, 255] : List Int) = [0] ++ [255] from rfl, ← List.append_assoc]; exact ho); have HB7 : Hid (Below w1.heap.size w1 w7) := Lib.hid hb6; clear ho hb6 hs1 hf))
          go_roundw
          case rel => exact ⟨k + 1, _, rfl, by go_num, by omega, HO7, HB7⟩
          case measure => simp [intOf]; omega
        · have t3 : ((c : Int) == 0) = false := by simp; omega
          rw [if_neg (by omega)] at hsn
          have HSN := Lib.hid hsn
          have HZ := Lib.hid hz
          clear hsn hz
          go_wp2_with (at_builtin; refine gapp_one (enc := Value.int .u8) (h1 := int_one .u8) tb (p := (c : Int)) rfl (.tmp 23) (.tmp 25) rfl rfl rfl HO.out HB.out HB.out.size ?cL ?_; (case cL => omega); intro v6 w6 ho hb6 hs1 hf; have HO6 : Hid (GrB w6 w1.heap.size v6 (esc (L.take (k + 1)))) := Lib.hid (by rw [HSN.out]; exact ho); have HB6 : Hid (Below w1.heap.size w1 w6) := Lib.hid hb6; clear ho hb6 hs1 hf)
          go_roundw
          case rel => exact ⟨k + 1, _, rfl, by go_num, by omega, HO6, HB6⟩
          case measure => simp [intOf]; omega
      · obtain rfl : k = n1 := by omega
        have t2 : decide ((k : Int) < (k : Int)) = false := by simp
        have htk : L.take k = L := List.take_of_length_le (by rw [HL1.out]; exact Nat.le_refl _)
        have HO' : Hid (GrB wr w1.heap.size v (esc L)) := Lib.hid (by have := HO.out; rwa [htk] at this)
        rw [htk] at hel
        have C2 := Lib.hid (fun wq v xs a b c => putBig_any f 8 HFF.out v xs w1 wq a b c)
        have hlit : Rds .u8 (wr.alloc (.cells #[.int .u8 0, .int .u8 1] 5)) (some ⟨wr.heap.size, 0, none⟩) 2 [0, 1] := rds_lit wr 5 (0, 0) 0 [0, 1] (by simp) 2 rfl
        have HLIT := Lib.hid hlit
        have HOL := Lib.hid (gr_below HO'.out (below_alloc (Below.refl _ _) (.cells #[.int .u8 0, .int .u8 1] 5)))
        have HBL := Lib.hid (below_alloc HB.out (.cells #[.int .u8 0, .int .u8 1] 5))
        clear hlit htk HO HO'
        go_wp2_with (at_builtin; refine gapp_row tb rfl (.tmp 33) (.tmp 34) rfl rfl rfl HOL.out HLIT.out HBL.out HBL.out.size ?cL ?_; (case cL => omega); intro v6 w6 ho hb6 hs1 hf; have HO6 : Hid (GrB w6 w1.heap.size v6 (esc L ++ [0, 1])) := Lib.hid ho; have HB6 : Hid (Below w1.heap.size w1 w6) := Lib.hid hb6; clear ho hb6 hs1 hf)
        have hxl : (esc L ++ [0, 1]).length + 8 ≤ 140737488355328 := by rw [List.length_append]; simp; omega
        refine (C2.out w6 v6 _ HO6.out HB6.out hxl).mono ?_
        rintro e w7 ⟨v7, rfl, hA⟩
        have hcv2 := conv_gr (dst := 9) tb Try.underlying5 Try.underlying9 hA.own
        rw [show min (Int.toNat 8) 8 = 8 from rfl, ← HIN.out] at hcv2
        have HB7 := Lib.hid (below_then HBA.out HBA.out.size hA.bel)
        clear hA C2 hxl
        go_wp2_with fail
        go_ret
        exact ⟨rfl, HB7.out⟩
end Go.Proofs.Ytnkeijdpjcclcaa.Key
-- KeyF
/- What Outer tells: plain laws. -/
namespace Go.Proofs.Ytnkeijdpjcclcaa.Key
set_option linter.unusedVariables false
set_option linter.unusedSimpArgs false
open Go.Proofs.Ytnkeijdpjcclcaa.Kit Go.Proofs.Ytnkeijdpjcclcaa.Num Go.RowKit Go.Proofs.YtnkeijdpjcclcaaW.PrintWords Go.Proofs.YtnkeijdpjcclcaaW.PrintLast Go.Proofs.YtnkeijdpjcclcaaW.PrintMore NumPure
/-- The name and what is behind it; none where it is out of form. -/
def scan : List Int → Option (List Int × List Int)
  | [] => some ([], [])
  | [c] => if c = 0 then none else some ([c], [])
  | c :: d :: r =>
    if c = 0 then (if d = 1 then some ([], c :: d :: r) else if d = 255 then (scan r).map fun p => (0 :: p.1, p.2) else none)
    else (scan (d :: r)).map fun p => (c :: p.1, p.2)
theorem scan_nil : scan [] = some ([], []) := by rw [scan]
theorem scan_zero : scan [0] = none := by rw [scan, if_pos rfl]
theorem scan_cons {c : Int} (r : List Int) (h : c ≠ 0) : scan (c :: r) = (scan r).map fun p => (c :: p.1, p.2) := by
  cases r with
  | nil => simp only [scan]; rw [if_neg h]; rfl
  | cons d r => rw [scan, if_neg h]
theorem scan_end (r : List Int) : scan (0 :: 1 :: r) = some ([], 0 :: 1 :: r) := by rw [scan, if_pos rfl, if_pos rfl]
theorem scan_esc0 (r : List Int) : scan (0 :: 255 :: r) = (scan r).map fun p => (0 :: p.1, p.2) := by rw [scan, if_pos rfl, if_neg (by omega), if_pos rfl]
theorem scan_bad {d : Int} (r : List Int) (h1 : d ≠ 1) (h2 : d ≠ 255) : scan (0 :: d :: r) = none := by rw [scan, if_pos rfl, if_neg h1, if_neg h2]
theorem esc_nil : esc [] = [] := rfl
theorem esc_zero (r : List Int) : esc (0 :: r) = 0 :: 255 :: esc r := by simp [esc]
theorem esc_cons {c : Int} (r : List Int) (h : c ≠ 0) : esc (c :: r) = c :: esc r := by simp [esc, h]
theorem scan_esc (k t : List Int) : scan (esc k ++ 0 :: 1 :: t) = some (k, 0 :: 1 :: t) := by
  induction k with
  | nil => rw [esc_nil, List.nil_append, scan_end]
  | cons c k ih =>
    by_cases h : c = 0
    · subst h
      rw [esc_zero, List.cons_append, List.cons_append, scan_esc0, ih]
      rfl
    · rw [esc_cons _ h, List.cons_append, scan_cons _ h, ih]
      rfl
theorem scan_some : ∀ (n : Nat) (l : List Int), l.length ≤ n → ∀ nm rest, scan l = some (nm, rest) → l = esc nm ++ rest ∧ (rest = [] ∨ ∃ t, rest = 0 :: 1 :: t) := by
  intro n
  induction n with
  | zero =>
    intro l hl nm rest h
    have : l = [] := List.eq_nil_of_length_eq_zero (by omega)
    subst this
    rw [scan_nil] at h
    cases h
    exact ⟨rfl, .inl rfl⟩
  | succ n ih =>
    intro l hl nm rest h
    cases l with
    | nil =>
      rw [scan_nil] at h
      cases h
      exact ⟨rfl, .inl rfl⟩
    | cons c r =>
      by_cases hc : c = 0
      · subst hc
        cases r with
        | nil => rw [scan_zero] at h; cases h
        | cons d r =>
          by_cases h1 : d = 1
          · subst h1
            rw [scan_end] at h
            cases h
            exact ⟨rfl, .inr ⟨r, rfl⟩⟩
          · by_cases h2 : d = 255
            · subst h2
              rw [scan_esc0] at h
              cases hs : scan r with
              | none => rw [hs] at h; cases h
              | some p =>
                obtain ⟨nm', rest'⟩ := p
                rw [hs] at h
                cases h
                obtain ⟨e1, e2⟩ := ih r (by simp at hl; omega) _ _ hs
                refine ⟨?_, e2⟩
                rw [esc_zero, List.cons_append, List.cons_append, ← e1]
            · rw [scan_bad _ h1 h2] at h
              cases h
      · rw [scan_cons _ hc] at h
        cases hs : scan r with
        | none => rw [hs] at h; cases h
        | some p =>
          obtain ⟨nm', rest'⟩ := p
          rw [hs] at h
          cases h
          obtain ⟨e1, e2⟩ := ih r (by simp at hl; omega) _ _ hs
          refine ⟨?_, e2⟩
          rw [esc_cons _ hc, List.cons_append, ← e1]
/-- A name ahead of what is scanned. -/
def ahead (nm : List Int) (o : Option (List Int × List Int)) : Option (List Int × List Int) := o.map fun p => (nm ++ p.1, p.2)
theorem ahead_nil (o : Option (List Int × List Int)) : ahead [] o = o := by cases o <;> rfl
theorem ahead_snoc (nm : List Int) (c : Int) (o : Option (List Int × List Int)) : ahead nm (o.map fun p => (c :: p.1, p.2)) = ahead (nm ++ [c]) o := by cases o <;> simp [ahead]
/-- The number behind the name. -/
def outN (rest : List Int) : Nat := 18446744073709551615 - beVal (rest.drop 2)
def outE (nm : List Int) (n : Nat) : Ent := ⟨strOfNums nm, n / 2, decide (n % 2 = 0), ⟨#[]⟩⟩
def Ent.zero : Ent := ⟨⟨#[]⟩, 0, false, ⟨#[]⟩⟩
def outer (l : List Int) : Option Ent :=
  match scan l with
  | none => none
  | some (nm, rest) => if rest.length = 10 then (if (outE nm (outN rest)).check = 0 then some (outE nm (outN rest)) else none) else none
/-- The entry and the error. -/
def told : Option Ent → Ent × Nat
  | none => (Ent.zero, 2)
  | some x => (x, 0)
theorem outer_none {l : List Int} (h : scan l = none) : outer l = none := by rw [outer, h]
theorem outer_short {l nm rest : List Int} (h : scan l = some (nm, rest)) (h2 : rest.length ≠ 10) : outer l = none := by rw [outer, h]; simp only; rw [if_neg h2]
theorem outer_long {l nm rest : List Int} (h : scan l = some (nm, rest)) (h2 : rest.length = 10) : outer l = if (outE nm (outN rest)).check = 0 then some (outE nm (outN rest)) else none := by rw [outer, h]; simp only; rw [if_pos h2]
theorem numsOf_isByte (s : ByteArray) : Byte (numsOf s) := numsOf_byte s
theorem check_zero {x : Ent} : x.check = 0 ↔ 0 < x.key.size ∧ x.key.size ≤ 128 ∧ x.seq ≤ 72057594037927935 ∧ (x.del = true → x.val.size = 0) ∧ x.val.size ≤ 65536 := by
  unfold Ent.check
  by_cases h1 : x.key.size = 0 ∨ 72057594037927935 < x.seq ∨ (x.del = true ∧ x.val.size ≠ 0)
  · rw [if_pos h1]
    refine ⟨fun h => absurd h (by decide), fun ⟨a, b, c, d, e⟩ => ?_⟩
    rcases h1 with h | h | ⟨h, h'⟩
    · omega
    · omega
    · exact absurd (d h) h'
  · rw [if_neg h1]
    simp only [not_or, not_and] at h1
    obtain ⟨a, b, c⟩ := h1
    by_cases h2 : 128 < x.key.size ∨ 65536 < x.val.size
    · rw [if_pos h2]
      refine ⟨fun h => absurd h (by decide), fun ⟨_, e, _, _, f⟩ => ?_⟩
      omega
    · rw [if_neg h2]
      refine ⟨fun _ => ⟨by omega, by omega, by omega, fun h => ?_, by omega⟩, fun _ => rfl⟩
      have := c h
      omega
def Ent.bare (x : Ent) : Ent := ⟨x.key, x.seq, x.del, ⟨#[]⟩⟩
theorem flip_lt (x : Ent) : x.flip < 18446744073709551616 := by have := num_lt x; unfold Ent.flip; omega
theorem outer_inner (x : Ent) (h : x.check = 0) : outer x.inL = some x.bare := by
  obtain ⟨h1, h2, h3, h4, h5⟩ := check_zero.1 h
  have hs : scan x.inL = some (numsOf x.key, 0 :: 1 :: be x.flip 8) := by
    have := scan_esc (numsOf x.key) (be x.flip 8)
    rw [Ent.inL, List.append_assoc]
    exact this
  have hl : (0 :: 1 :: be x.flip 8 : List Int).length = 10 := by simp [be_length]
  have hn : outN (0 :: 1 :: be x.flip 8) = x.num := by
    unfold outN
    rw [show (0 :: 1 :: be x.flip 8 : List Int).drop 2 = be x.flip 8 from rfl, beVal_be _ _ (flip_lt x), Ent.flip]
    have := num_lt x
    omega
  have he : outE (numsOf x.key) x.num = x.bare := by
    have hnum : x.num = 2 * x.seq + if x.del then 0 else 1 := by
      unfold Ent.num
      rw [Nat.mod_eq_of_lt (by omega)]
    unfold outE Ent.bare
    rw [strOfNums_numsOf]
    cases hd : x.del
    · rw [hd] at hnum
      simp only [Bool.false_eq_true, if_false] at hnum
      have h1 : x.num / 2 = x.seq := by omega
      have h2 : decide (x.num % 2 = 0) = false := decide_eq_false (by omega)
      rw [h1, h2]
    · rw [hd] at hnum
      simp only [if_true] at hnum
      have h1 : x.num / 2 = x.seq := by omega
      have h2 : decide (x.num % 2 = 0) = true := decide_eq_true (by omega)
      rw [h1, h2]
  rw [outer_long hs hl, hn, he, if_pos]
  exact check_zero.2 ⟨h1, h2, h3, fun _ => rfl, by show 0 ≤ _; omega⟩
theorem outer_some {l : List Int} (hb : Byte l) {x : Ent} (h : outer l = some x) : x.inL = l ∧ x.check = 0 ∧ x.val = ⟨#[]⟩ := by
  cases hs : scan l with
  | none => rw [outer_none hs] at h; cases h
  | some p =>
    obtain ⟨nm, rest⟩ := p
    obtain ⟨e1, e2⟩ := scan_some l.length l (Nat.le_refl _) _ _ hs
    by_cases hl : rest.length = 10
    · rw [outer_long hs hl] at h
      by_cases hc : (outE nm (outN rest)).check = 0
      · rw [if_pos hc] at h
        cases h
        refine ⟨?_, hc, rfl⟩
        obtain ⟨c1, c2, c3, c4, c5⟩ := check_zero.1 hc
        rcases e2 with e2 | ⟨t, e2⟩
        · subst e2; simp at hl
        · subst e2
          have htl : t.length = 8 := by simpa using hl
          have hbt : Byte t := fun y hy => hb y (by rw [e1]; simp [hy])
          have hbn : ∀ y ∈ nm, 0 ≤ y ∧ y < 256 := fun y hy => by
            have : y ∈ esc nm := by
              unfold esc
              rw [List.mem_flatMap]
              refine ⟨y, hy, ?_⟩
              split <;> simp_all
            exact hb y (by rw [e1]; exact List.mem_append_left _ this)
          have hv : beVal t < 18446744073709551616 := by have := beVal_lt hbt; rw [htl] at this; exact this
          have hN : outN (0 :: 1 :: t) = 18446744073709551615 - beVal t := rfl
          have hnum : (outE nm (outN (0 :: 1 :: t))).num = outN (0 :: 1 :: t) := by
            unfold Ent.num outE
            simp only
            generalize outN (0 :: 1 :: t) = n at hN ⊢
            rw [Nat.mod_eq_of_lt (by omega)]
            by_cases hp : n % 2 = 0
            · rw [decide_eq_true hp]; simp; omega
            · rw [decide_eq_false hp]; simp; omega
          unfold Ent.inL Ent.flip
          rw [hnum, hN, show 18446744073709551615 - (18446744073709551615 - beVal t) = beVal t by omega]
          have hbe := be_beVal t hbt
          rw [htl] at hbe
          rw [hbe, show (outE nm (18446744073709551615 - beVal t)).key = strOfNums nm from rfl, numsOf_strOfNums _ hbn, e1]
          simp
      · rw [if_neg hc] at h; cases h
    · rw [outer_short hs hl] at h; cases h
end Go.Proofs.Ytnkeijdpjcclcaa.Key
-- KeyH
/- The order of inner texts; their bytes: plain laws. -/
namespace Go.Proofs.Ytnkeijdpjcclcaa.Key
set_option linter.unusedVariables false
set_option linter.unusedSimpArgs false
open Go.Proofs.Ytnkeijdpjcclcaa.Kit Go.Proofs.Ytnkeijdpjcclcaa.Num Go.RowKit Go.Proofs.YtnkeijdpjcclcaaW.PrintWords Go.Proofs.YtnkeijdpjcclcaaW.PrintLast Go.Proofs.YtnkeijdpjcclcaaW.PrintMore NumPure
theorem ltN_esc : ∀ (a b : List Int), (∀ x ∈ a, 0 ≤ x) → (∀ x ∈ b, 0 ≤ x) → a ≠ b → ∀ t u : List Int, ltN (esc a ++ 0 :: 1 :: t) (esc b ++ 0 :: 1 :: u) = ltN a b
  | [], [], _, _, h, t, u => absurd rfl h
  | [], c :: b, _, hb, _, t, u => by
    have hc := hb c (by simp)
    by_cases h0 : c = 0
    · subst h0
      rw [esc_zero, esc_nil]
      simp [ltN]
    · rw [esc_cons _ h0, esc_nil]
      have : (0 : Int) < c := by omega
      simp [ltN, this]
  | c :: a, [], ha, _, _, t, u => by
    have hc := ha c (by simp)
    by_cases h0 : c = 0
    · subst h0
      rw [esc_zero, esc_nil]
      simp [ltN]
    · rw [esc_cons _ h0, esc_nil]
      have h1 : ¬ c < 0 := by omega
      simp [ltN, h0, h1]
  | c :: a, d :: b, ha, hb, h, t, u => by
    have hc := ha c (by simp)
    have hd := hb d (by simp)
    by_cases hcd : c = d
    · subst hcd
      have ih := ltN_esc a b (fun x hx => ha x (by simp [hx])) (fun x hx => hb x (by simp [hx])) (fun e => h (by rw [e])) t u
      by_cases h0 : c = 0
      · subst h0
        rw [esc_zero, esc_zero]
        simp only [List.cons_append, ltN, Int.lt_irrefl, if_false, if_true]
        exact ih
      · rw [esc_cons _ h0, esc_cons _ h0]
        simp only [List.cons_append, ltN, Int.lt_irrefl, if_false, if_true]
        exact ih
    · have e1 : ∃ r, esc (c :: a) ++ 0 :: 1 :: t = c :: r := by
        by_cases h0 : c = 0
        · subst h0; exact ⟨_, by rw [esc_zero]; rfl⟩
        · exact ⟨_, by rw [esc_cons _ h0]; rfl⟩
      have e2 : ∃ r, esc (d :: b) ++ 0 :: 1 :: u = d :: r := by
        by_cases h0 : d = 0
        · subst h0; exact ⟨_, by rw [esc_zero]; rfl⟩
        · exact ⟨_, by rw [esc_cons _ h0]; rfl⟩
      obtain ⟨r1, e1⟩ := e1
      obtain ⟨r2, e2⟩ := e2
      rw [e1, e2]
      simp [ltN, hcd]
theorem ltN_be (a b : Nat) : ∀ s, ltN (be a s) (be b s) = decide (a % 256 ^ s < b % 256 ^ s) := by
  intro s
  induction s with
  | zero => simp [be, le, ltN, Nat.mod_one]
  | succ s ih =>
    rw [be_succ, be_succ]
    simp only [ltN, ih]
    have ea : a % 256 ^ (s + 1) = a % 256 ^ s + 256 ^ s * (a / 256 ^ s % 256) := by rw [Nat.pow_succ, Nat.mod_mul]
    have eb : b % 256 ^ (s + 1) = b % 256 ^ s + 256 ^ s * (b / 256 ^ s % 256) := by rw [Nat.pow_succ, Nat.mod_mul]
    have ha : a % 256 ^ s < 256 ^ s := Nat.mod_lt _ (Nat.pow_pos (by omega))
    have hb : b % 256 ^ s < 256 ^ s := Nat.mod_lt _ (Nat.pow_pos (by omega))
    rw [ea, eb]
    generalize a % 256 ^ s = p at ha ⊢
    generalize b % 256 ^ s = q at hb ⊢
    generalize a / 256 ^ s % 256 = x
    generalize b / 256 ^ s % 256 = y
    generalize 256 ^ s = m at ha hb ⊢
    rcases Nat.lt_trichotomy x y with h | h | h
    · have h1 : (x : Int) < (y : Int) := by omega
      rw [if_pos h1]
      have h2 : m * (x + 1) ≤ m * y := Nat.mul_le_mul_left m h
      rw [Nat.mul_add, Nat.mul_one] at h2
      exact (decide_eq_true (by omega)).symm
    · subst h
      rw [if_neg (by omega), if_pos rfl]
      exact decide_eq_decide.2 (by omega)
    · rw [if_neg (by omega), if_neg (by omega)]
      have h2 : m * (y + 1) ≤ m * x := Nat.mul_le_mul_left m h
      rw [Nat.mul_add, Nat.mul_one] at h2
      exact (decide_eq_false (by omega)).symm
theorem num_of {x : Ent} (h : x.check = 0) : x.num = 2 * x.seq + (if x.del then 0 else 1) ∧ x.seq ≤ 72057594037927935 := by
  obtain ⟨_, _, h3, _, _⟩ := check_zero.1 h
  refine ⟨?_, h3⟩
  unfold Ent.num
  rw [Nat.mod_eq_of_lt (by omega)]
theorem inner_less (x y : Ent) (hx : x.check = 0) (hy : y.check = 0) (hc : x.cmp y ≠ 0) : Op.bytesLess x.inner.toList y.inner.toList = decide (x.cmp y < 0) := by
  have hby : ∀ z : Ent, Byte z.inL := fun z => by
    unfold Ent.inL
    refine Byte.append (Byte.append (fun c hc => ?_) (fun c hc => ?_)) (be_byte _ _)
    · unfold esc at hc
      rw [List.mem_flatMap] at hc
      obtain ⟨d, hd, hc⟩ := hc
      have := numsOf_byte z.key d hd
      split at hc <;> simp at hc <;> omega
    · simp at hc
      omega
  have hn : ∀ z : Ent, numsOf z.inner = z.inL := fun z => by unfold Ent.inner; exact numsOf_strOfNums _ (hby z)
  rw [less_nums, hn, hn]
  unfold Ent.inL
  rw [List.append_assoc, List.append_assoc]
  show ltN (esc (numsOf x.key) ++ 0 :: 1 :: be x.flip 8) (esc (numsOf y.key) ++ 0 :: 1 :: be y.flip 8) = _
  by_cases hk : x.key = y.key
  · rw [hk, ltN_pre, show (0 :: 1 :: be x.flip 8 : List Int) = [0, 1] ++ be x.flip 8 from rfl, show (0 :: 1 :: be y.flip 8 : List Int) = [0, 1] ++ be y.flip 8 from rfl, ltN_pre, ltN_be]
    have fx := flip_lt x
    have fy := flip_lt y
    rw [Nat.mod_eq_of_lt (by omega), Nat.mod_eq_of_lt (by omega)]
    obtain ⟨nx, sx⟩ := num_of hx
    obtain ⟨ny, sy⟩ := num_of hy
    have hs : x.seq ≠ y.seq := fun e => hc ((Ent.cmp_zero x y).2 ⟨hk, e⟩)
    have hcb : CB x.key y.key = 0 := (CB_zero _ _).2 hk
    have hlt : x.cmp y < 0 ↔ y.seq < x.seq := by
      unfold Ent.cmp
      rw [if_neg (by simpa using hcb)]
      by_cases g1 : y.seq < x.seq
      · rw [if_pos g1]; exact ⟨fun _ => g1, fun _ => by omega⟩
      · rw [if_neg g1, if_pos (by omega)]; exact ⟨fun h => by omega, fun h => absurd h g1⟩
    refine decide_eq_decide.2 ?_
    rw [hlt]
    unfold Ent.flip
    rw [nx, ny]
    split <;> split <;> omega
  · rw [ltN_esc _ _ (fun c hc => (numsOf_byte _ c hc).1) (fun c hc => (numsOf_byte _ c hc).1) (fun e => hk (numsOf_inj e)), ← less_nums, Ent.cmp_less x y hk]
/-- The i-th byte, from behind, of a number's complement. -/
theorem flip_digit (N i : Nat) (hN : N < 18446744073709551616) (hi : i < 8) : (18446744073709551615 - N) / 256 ^ i % 256 = 255 - N / 256 ^ i % 256 := by
  have h : i = 0 ∨ i = 1 ∨ i = 2 ∨ i = 3 ∨ i = 4 ∨ i = 5 ∨ i = 6 ∨ i = 7 := by omega
  rcases h with h | h | h | h | h | h | h | h <;> subst h <;> simp only [Nat.reducePow, Nat.pow_zero, Nat.pow_one] <;> omega
/-- What the law's second loop lays: the bytes down to the m-th. -/
theorem flip_take (x : Ent) (m : Nat) (hm : m < 8) : (be x.flip 8).take (8 - m) = (be x.flip 8).take (8 - (m + 1)) ++ [((255 - x.num / 256 ^ m % 256 : Nat) : Int)] := by
  have hl : (be x.flip 8).length = 8 := be_length _ _
  rw [show 8 - m = (8 - (m + 1)) + 1 by omega, List.take_succ_eq_append_getElem (by omega)]
  congr 1
  have hget : (be x.flip 8)[8 - (m + 1)]'(by omega) = ((x.flip / 256 ^ m % 256 : Nat) : Int) := by
    unfold be
    rw [List.getElem_reverse]
    simp only [le, List.getElem_map, List.getElem_range, List.length_map, List.length_range]
    rw [show 8 - 1 - (8 - (m + 1)) = m by omega]
  rw [hget, Ent.flip, flip_digit _ _ (num_lt x) hm]
end Go.Proofs.Ytnkeijdpjcclcaa.Key
-- KeyI
/- Which texts are inner texts, told from behind: plain laws. -/
namespace Go.Proofs.Ytnkeijdpjcclcaa.Key
set_option linter.unusedVariables false
set_option linter.unusedSimpArgs false
open Go.Proofs.Ytnkeijdpjcclcaa.Kit Go.Proofs.Ytnkeijdpjcclcaa.Num Go.RowKit Go.Proofs.YtnkeijdpjcclcaaW.PrintWords Go.Proofs.YtnkeijdpjcclcaaW.PrintLast Go.Proofs.YtnkeijdpjcclcaaW.PrintMore NumPure
/-- How many bytes an escaped text stands for. -/
def par : List Int → Option Nat
  | [] => some 0
  | [c] => if c = 0 then none else some 1
  | c :: d :: r => if c = 0 then (if d = 255 then (par r).map (· + 1) else none) else (par (d :: r)).map (· + 1)
theorem par_nil : par [] = some 0 := by rw [par]
theorem par_zero : par [0] = none := by rw [par, if_pos rfl]
theorem par_cons {c : Int} (r : List Int) (h : c ≠ 0) : par (c :: r) = (par r).map (· + 1) := by
  cases r with
  | nil => simp only [par]; rw [if_neg h]; rfl
  | cons d r => rw [par, if_neg h]
theorem par_esc0 (r : List Int) : par (0 :: 255 :: r) = (par r).map (· + 1) := by rw [par, if_pos rfl, if_pos rfl]
theorem par_bad {d : Int} (r : List Int) (h : d ≠ 255) : par (0 :: d :: r) = none := by rw [par, if_pos rfl, if_neg h]
theorem par_esc (k : List Int) : par (esc k) = some k.length := by
  induction k with
  | nil => rw [esc_nil, par_nil]; rfl
  | cons c k ih =>
    by_cases h : c = 0
    · subst h
      rw [esc_zero, par_esc0, ih]; rfl
    · rw [esc_cons _ h, par_cons _ h, ih]; rfl
theorem par_some : ∀ (n : Nat) (p : List Int), p.length ≤ n → ∀ k, par p = some k → ∃ nm, p = esc nm ∧ nm.length = k := by
  intro n
  induction n with
  | zero =>
    intro p hp k h
    have : p = [] := List.eq_nil_of_length_eq_zero (by omega)
    subst this
    rw [par_nil] at h
    cases h
    exact ⟨[], rfl, rfl⟩
  | succ n ih =>
    intro p hp k h
    cases p with
    | nil =>
      rw [par_nil] at h
      cases h
      exact ⟨[], rfl, rfl⟩
    | cons c r =>
      by_cases hc : c = 0
      · subst hc
        cases r with
        | nil => rw [par_zero] at h; cases h
        | cons d r =>
          by_cases h2 : d = 255
          · subst h2
            rw [par_esc0] at h
            cases hs : par r with
            | none => rw [hs] at h; cases h
            | some q =>
              rw [hs] at h
              cases h
              obtain ⟨nm, e1, e2⟩ := ih r (by simp at hp; omega) _ hs
              exact ⟨0 :: nm, by rw [esc_zero, e1], by simp [e2]⟩
          · rw [par_bad _ h2] at h
            cases h
      · rw [par_cons _ hc] at h
        cases hs : par r with
        | none => rw [hs] at h; cases h
        | some q =>
          rw [hs] at h
          cases h
          obtain ⟨nm, e1, e2⟩ := ih r (by simp at hp; omega) _ hs
          exact ⟨c :: nm, by rw [esc_cons _ hc, e1], by simp [e2]⟩
/-- So many more. -/
def more (c : Nat) (o : Option Nat) : Option Nat := o.map (· + c)
theorem more_zero (o : Option Nat) : more 0 o = o := by cases o <;> rfl
theorem more_succ (c : Nat) (o : Option Nat) : more c (o.map (· + 1)) = more (c + 1) o := by
  cases o with
  | none => rfl
  | some k => show some (k + 1 + c) = some (k + (c + 1)); congr 1; omega
/-- Whether a text is an inner text, told from behind. -/
def tailOk (l : List Int) : Bool := decide ((l.drop (l.length - 10)).take 2 = [0, 1]) && decide (254 ≤ l.getD (l.length - 8) 0)
def few : Option Nat → Bool
  | none => false
  | some k => decide (k ≤ 128)
def rightL (l : List Int) : Bool := decide (11 ≤ l.length) && tailOk l && few (par (l.take (l.length - 10)))
theorem top_byte (t : List Int) (hb : Byte t) (hl : t.length = 8) : 254 ≤ t.getD 0 0 ↔ 18302628885633695744 ≤ beVal t := by
  have hbe := be_beVal t hb
  rw [hl] at hbe
  have hv : beVal t < 18446744073709551616 := by have := beVal_lt hb; rw [hl] at this; exact this
  have : t.getD 0 0 = ((beVal t / 256 ^ 7 % 256 : Nat) : Int) := by
    conv => lhs; rw [← hbe, be_succ]
    rfl
  rw [this]
  generalize beVal t = v at hv
  simp only [Nat.reducePow]
  omega
theorem rightL_of_some {l : List Int} (hb : Byte l) {x : Ent} (h : outer l = some x) : rightL l = true := by
  obtain ⟨e, hc, _⟩ := outer_some hb h
  obtain ⟨k1, k2, k3, _, _⟩ := check_zero.1 hc
  have hl : l = esc (numsOf x.key) ++ (0 :: 1 :: be x.flip 8) := by rw [← e, Ent.inL, List.append_assoc]; rfl
  have hlen : l.length = (esc (numsOf x.key)).length + 10 := by rw [hl, List.length_append]; simp [be_length]
  have hne : 0 < (esc (numsOf x.key)).length := by
    have hk : 0 < (numsOf x.key).length := by rw [numsOf_length]; exact k1
    generalize numsOf x.key = k at hk ⊢
    cases k with
    | nil => simp at hk
    | cons c r =>
      by_cases h0 : c = 0
      · subst h0; rw [esc_zero]; simp
      · rw [esc_cons _ h0]; simp
  have h10 : l.length - 10 = (esc (numsOf x.key)).length := by omega
  have h8 : l.length - 8 = (esc (numsOf x.key)).length + 2 := by omega
  have hd : l.drop (l.length - 10) = 0 :: 1 :: be x.flip 8 := by rw [h10, hl, List.drop_left]
  have ht : l.take (l.length - 10) = esc (numsOf x.key) := by rw [h10, hl, List.take_left]
  have hg : l.getD (l.length - 8) 0 = (be x.flip 8).getD 0 0 := by
    have : (l.drop (l.length - 10)).getD 2 0 = l.getD (l.length - 8) 0 := by
      rw [List.getD_eq_getElem?_getD, List.getElem?_drop, ← List.getD_eq_getElem?_getD, show l.length - 10 + 2 = l.length - 8 by omega]
    rw [← this, hd]
    rfl
  unfold rightL tailOk
  rw [hd, ht, hg, par_esc, numsOf_length]
  have h1 : decide (11 ≤ l.length) = true := decide_eq_true (by omega)
  have h2 : (254 : Int) ≤ (be x.flip 8).getD 0 0 := by
    rw [top_byte _ (be_byte _ _) (be_length _ _), beVal_be _ _ (flip_lt x)]
    obtain ⟨hn, _⟩ := num_of hc
    unfold Ent.flip
    rw [hn]
    split <;> omega
  rw [h1, decide_eq_true h2]
  have h3 : few (some x.key.size) = true := decide_eq_true k2
  rw [h3]
  rfl
theorem some_of_rightL {l : List Int} (hb : Byte l) (h : rightL l = true) : ∃ x, outer l = some x := by
  unfold rightL tailOk at h
  simp only [Bool.and_eq_true, decide_eq_true_eq] at h
  obtain ⟨⟨h11, h01, h254⟩, hf⟩ := h
  cases hp : par (l.take (l.length - 10)) with
  | none => rw [hp] at hf; cases hf
  | some k =>
    rw [hp] at hf
    have hk : k ≤ 128 := of_decide_eq_true hf
    obtain ⟨nm, e1, e2⟩ := par_some _ _ (Nat.le_refl _) _ hp
    obtain ⟨t, hD⟩ : ∃ t, l.drop (l.length - 10) = 0 :: 1 :: t := ⟨(l.drop (l.length - 10)).drop 2, by
      have := List.take_append_drop 2 (l.drop (l.length - 10))
      rw [h01] at this
      exact this.symm⟩
    have hl : l = esc nm ++ 0 :: 1 :: t := by rw [← e1, ← hD, List.take_append_drop]
    have htl : t.length = 8 := by
      have : (l.drop (l.length - 10)).length = 10 := by rw [List.length_drop]; omega
      rw [hD] at this
      simpa using this
    have hbt : Byte t := fun y hy => hb y (by rw [hl]; simp [hy])
    have hs : scan l = some (nm, 0 :: 1 :: t) := by rw [hl, scan_esc]
    have hg : t.getD 0 0 = l.getD (l.length - 8) 0 := by
      have : (l.drop (l.length - 10)).getD 2 0 = l.getD (l.length - 8) 0 := by
        rw [List.getD_eq_getElem?_getD, List.getElem?_drop, ← List.getD_eq_getElem?_getD, show l.length - 10 + 2 = l.length - 8 by omega]
      rw [← this, hD]
      rfl
    rw [← hg, top_byte _ hbt htl] at h254
    have hnm : nm.length ≠ 0 := by
      intro h0
      have : nm = [] := List.eq_nil_of_length_eq_zero h0
      subst this
      have hlen := congrArg List.length hl
      simp [esc_nil, htl] at hlen
      omega
    have hv : beVal t < 18446744073709551616 := by have := beVal_lt hbt; rw [htl] at this; exact this
    refine ⟨outE nm (outN (0 :: 1 :: t)), ?_⟩
    rw [outer_long hs (by simp [htl]), if_pos]
    refine check_zero.2 ⟨?_, ?_, ?_, fun _ => rfl, by show 0 ≤ _; omega⟩
    · show 0 < (strOfNums nm).size
      rw [strOf_size]; omega
    · show (strOfNums nm).size ≤ 128
      rw [strOf_size]; omega
    · show (18446744073709551615 - beVal t) / 2 ≤ _
      omega
theorem inner_of_outer {s : ByteArray} {x : Ent} (h : outer (numsOf s) = some x) : x.inner = s ∧ x.check = 0 := by
  obtain ⟨e, hc, _⟩ := outer_some (numsOf_isByte s) h
  exact ⟨by unfold Ent.inner; rw [e, strOfNums_numsOf], hc⟩
end Go.Proofs.Ytnkeijdpjcclcaa.Key
-- KeyJ
/- Entries compared whole, in regions. -/
namespace Go.Proofs.Ytnkeijdpjcclcaa.Key
set_option linter.unusedVariables false
set_option linter.unusedSimpArgs false
open Go.Proofs.Ytnkeijdpjcclcaa.Kit Go.Proofs.Ytnkeijdpjcclcaa.Num Go.RowKit Go.Proofs.YtnkeijdpjcclcaaW.PrintWords Go.Proofs.YtnkeijdpjcclcaaW.PrintLast Go.Proofs.YtnkeijdpjcclcaaW.PrintMore NumPure
def Ent.eqb (a b : Ent) : Bool := decide (a.key = b.key) && (((a.seq : Int) == (b.seq : Int)) && ((a.del == b.del) && decide (a.val = b.val)))
theorem Ent.eqb_iff {a b : Ent} : a.eqb b = true ↔ a = b := by
  obtain ⟨k, s, d, v⟩ := a
  obtain ⟨k2, s2, d2, v2⟩ := b
  simp only [Ent.eqb, Bool.and_eq_true, decide_eq_true_eq, beq_iff_eq, Ent.mk.injEq]
  exact ⟨fun ⟨h1, h2, h3, h4⟩ => ⟨h1, by omega, h3, h4⟩, fun ⟨h1, h2, h3, h4⟩ => ⟨h1, by omega, h3, h4⟩⟩
theorem Ent.eqb_self (a : Ent) : a.eqb a = true := Ent.eqb_iff.2 rfl
theorem toList_beq (a b : ByteArray) : (a.toList == b.toList) = decide (a = b) := by
  rw [Bool.eq_iff_iff, beq_iff_eq, decide_eq_true_iff, ByteArray.toList_eq, ByteArray.toList_eq]
  exact ⟨ba_ext, fun h => by rw [h]⟩
theorem ent_equalIn (d : Nat) (a b : Ent) (w : World) : (Op.equalIn (d + 1 + 1) 61 a.ag b.ag).run Try.prog w = .ok (a.eqb b) w := by
  obtain ⟨k, s, e, v⟩ := a
  obtain ⟨k2, s2, e2, v2⟩ := b
  unfold Ent.eqb Ent.ag Ent.cells
  rw [← toList_beq, ← toList_beq]
  refine eqA_of Try.underlying61 (by kernel_rfl) (eqf_cons rfl ?_ ?_ (run_equalIn_string w d 9 k k2 Try.underlying9) (eqf_cons rfl ?_ ?_ (run_equalIn_int w d 32 .u64 .u64 _ _ Try.underlying32) (eqf_cons rfl ?_ ?_ (run_equalIn_bool' w d 4 e e2 Try.underlying4) (eqf_last rfl ?_ ?_ (run_equalIn_string w d 9 v v2 Try.underlying9)))))
  all_goals go_simp
theorem op_ent_eql {o : Oper} {l : List (Nat × Value)} {x y : Operand} {m : Nat} {a b : Ent} {r : Bool} {w : World} (ho : o.op = .binOp .eql 61 x y m) (hx : lk l x = a.ag) (hy : lk l y = b.ag) (h : a.eqb b = r) : (execOp (lk l) o).run Try.prog w = .ok (.value (.bool r)) w := by
  subst h
  exact op_agg_eql ho hx hy (by kernel_rfl) (ent_equalIn 9998 a b w)
theorem op_ent_neq {o : Oper} {l : List (Nat × Value)} {x y : Operand} {m : Nat} {a b : Ent} {r : Bool} {w : World} (ho : o.op = .binOp .neq 61 x y m) (hx : lk l x = a.ag) (hy : lk l y = b.ag) (h : (!a.eqb b) = r) : (execOp (lk l) o).run Try.prog w = .ok (.value (.bool r)) w := by
  subst h
  exact op_agg_neq ho hx hy (by kernel_rfl) (ent_equalIn 9998 a b w)
end Go.Proofs.Ytnkeijdpjcclcaa.Key
-- KeyC
/- The document's example of key. -/
namespace Go.Proofs.Ytnkeijdpjcclcaa.Key
set_option linter.unusedVariables false
set_option linter.unusedSimpArgs false
open Go.Proofs.Ytnkeijdpjcclcaa.Kit Go.Proofs.Ytnkeijdpjcclcaa.Num Go.RowKit Go.Proofs.YtnkeijdpjcclcaaW.PrintWords Go.Proofs.YtnkeijdpjcclcaaW.PrintLast Go.Proofs.YtnkeijdpjcclcaaW.PrintMore NumPure
theorem box_below {w w' : World} {g : Nat} {o : Obj} (h : w.heap[g]? = some o) (hb : Below w.heap.size w w') : w'.heap[g]? = some o := by rw [hb.block g (mk_lt h)]; exact h
end Go.Proofs.Ytnkeijdpjcclcaa.Key
-- KeyG
/- Contracts of package key: Outer. -/
namespace Go.Proofs.Ytnkeijdpjcclcaa.Key
set_option linter.unusedVariables false
set_option linter.unusedSimpArgs false
open Go.Proofs.Ytnkeijdpjcclcaa.Kit Go.Proofs.Ytnkeijdpjcclcaa.Num Go.RowKit Go.Proofs.YtnkeijdpjcclcaaW.PrintWords Go.Proofs.YtnkeijdpjcclcaaW.PrintLast Go.Proofs.YtnkeijdpjcclcaaW.PrintMore NumPure
theorem cut2 (s : ByteArray) (k : Nat) (b : Bool) (h : decide (k < s.size) = true → (!decide (((numsOf s).drop k).take 2 = [0, 1])) = b) (h2 : decide (k < s.size) = false → b = false) :
    (decide ((k : Int) < (s.size : Int)) && !decide (s.extract k (min (k + 2) s.size) = ⟨#[0, 1]⟩)) = b := by
  have e : decide ((k : Int) < (s.size : Int)) = decide (k < s.size) := decide_eq_decide.2 ⟨fun h => by omega, fun h => by omega⟩
  rw [e]
  by_cases hk : k < s.size
  · rw [decide_eq_true hk] at h ⊢
    rw [← h rfl, Bool.true_and]
    congr 1
    refine decide_eq_decide.2 ?_
    rw [numsOf_eq, numsOf_extract, show numsOf ⟨#[0, 1]⟩ = [0, 1] by rw [numsOf_data]; rfl]
    have hl := numsOf_length s
    have : ((numsOf s).drop k).take (min (k + 2) s.size - k) = ((numsOf s).drop k).take 2 := by
      by_cases h2 : k + 2 ≤ s.size
      · rw [Nat.min_eq_left h2, show k + 2 - k = 2 by omega]
      · rw [Nat.min_eq_right (by omega), List.take_of_length_le (by rw [List.length_drop]; omega), List.take_of_length_le (by rw [List.length_drop]; omega)]
    rw [this]
  · rw [decide_eq_false hk] at h2 ⊢
    rw [h2 rfl]
    rfl
theorem scan_stop (L : List Int) (n k : Nat) (hn : L.length = n) (h : ¬ (k < n ∧ ¬ (L.drop k).take 2 = [0, 1])) : scan (L.drop k) = some ([], L.drop k) := by
  by_cases hk : k < n
  · have h2 : (L.drop k).take 2 = [0, 1] := Classical.byContradiction fun g => h ⟨hk, g⟩
    have h3 : L.drop k = 0 :: 1 :: (L.drop k).drop 2 := by
      have := List.take_append_drop 2 (L.drop k)
      rw [h2] at this
      exact this.symm
    rw [h3, scan_end]
  · rw [List.drop_eq_nil_of_le (by omega), scan_nil]
theorem reg_34_3 : RegOk (opsOf Try.f34 3) [[], [], [1], [0, 1, 2], [0, 1, 2, 3], [0, 1, 2, 3, 4], [0, 1, 2, 3, 4], [0, 1, 2, 3, 4], [0, 1, 2, 3, 4, 7], [0, 1, 2, 3, 4], [0, 1, 2, 3, 4, 9], [0, 1, 2, 3, 4, 7, 8, 9, 10], [0, 1, 2, 3, 4, 5, 6, 7, 8, 9, 10, 11], [0, 1, 2, 3, 4, 5, 6, 7, 8, 9, 10, 11, 12], [0, 1, 2, 3, 4, 5, 6, 7, 8, 9, 10, 11, 12, 13]] [] [some 8, some 9, some 10, some 11, some 12, some 13, some 14, some 15, some 16, some 17, some 18, some 19, some 20, some 21, some 22] := regOk (by kernel_rfl)
theorem reg_34_8 : RegOk (opsOf Try.f34 8) [[], [], [1], [0, 1, 2], [0, 1, 2, 3], [0, 1, 2, 3, 4], [0, 1, 2, 3, 4], [0, 1, 2, 3, 4, 5, 6], [0, 1, 2, 3, 4, 5, 6, 7], [0, 1, 2, 3, 4, 5, 6, 7, 8]] [] [some 37, some 38, some 39, some 40, some 41, some 42, some 43, some 44, some 45, some 46] := regOk (by kernel_rfl)
set_option maxRecDepth 20000 in
set_option maxHeartbeats 3200000 in
theorem outer_any (s : ByteArray) (hsz : s.size ≤ 140737488355000) (w : World) :
    Calls Try.prog 34 #[.string s] w fun e w' => e = .returned (.tuple #[(told (outer (numsOf s))).1.ag, .int .i64 (told (outer (numsOf s))).2]) ∧ Below w.heap.size w w' := by
  have hll := numsOf_length s
  have hbt := numsOf_isByte s
  obtain ⟨n, hn⟩ : ∃ n, n = s.size := ⟨_, rfl⟩
  obtain ⟨L, hL⟩ : ∃ L, L = numsOf s := ⟨_, rfl⟩
  rw [← hL, ← hn] at hll
  rw [← hL] at hbt ⊢
  have HLL := Lib.hid hll
  have HL := Lib.hid hL
  have HN := Lib.hid hn
  have HBT := Lib.hid hbt
  have hn2 : n ≤ 140737488355000 := by omega
  clear hsz hll hbt hL hn
  obtain ⟨R, hR⟩ : ∃ R, R = told (outer L) := ⟨_, rfl⟩
  rw [← hR]
  have HR := Lib.hid hR
  clear hR
  go_enter Try.func34, Try.ntmps34
  go_wp2_with fail
  have HW1 : Hid (Below w.heap.size w (w.alloc (.cells #[.string ⟨#[]⟩, .int .u64 0, .bool false, .string ⟨#[]⟩] 61))) := Lib.hid (below_alloc (Below.refl _ _) _)
  have HG1 : Hid ((w.alloc (.cells #[.string ⟨#[]⟩, .int .u64 0, .bool false, .string ⟨#[]⟩] 61)).heap[w.heap.size]? = some (.cells Ent.zero.cells.toArray 61)) := Lib.hid (by show (w.heap.push _)[w.heap.size]? = _; simp; rfl)
  generalize w.alloc (.cells #[.string ⟨#[]⟩, .int .u64 0, .bool false, .string ⟨#[]⟩] 61) = w1 at HW1 HG1 ⊢
  go_loopw [4, 5] (fun v i wr => ∃ (k : Nat) (nm : List Int) (v' : Value), v' = v ∧ i = .int .i64 k ∧ k ≤ n ∧ nm.length ≤ k ∧ Hid (GrB wr w1.heap.size v' nm) ∧ Hid (Below w1.heap.size w1 wr) ∧ Hid (scan L = ahead nm (scan (L.drop k)))) (fun _ i _ => n - (intOf i).toNat)
  case atStart => exact ⟨0, [], _, rfl, rfl, Nat.zero_le _, Nat.zero_le _, Lib.hid (gr_nil _ _ _), Lib.hid (Below.refl _ _), Lib.hid (by rw [ahead_nil, List.drop_zero])⟩
  case round =>
    obtain ⟨k, nm, v', hv, rfl, hk, hnm, HO, HB, HS⟩ := hrel
    subst hv
    by_cases hx : k < n ∧ ¬ (L.drop k).take 2 = [0, 1]
    · have H3 : Hid ((decide ((k : Int) < (n : Int)) && !decide (s.extract k (min (k + 2) n) = ⟨#[0, 1]⟩)) = true) := Lib.hid (by
        have := cut2 s k true (fun _ => by rw [← HL.out]; simp [hx.2]) (fun h => by rw [← HN.out] at h; simp at h; omega)
        rw [← HN.out] at this
        exact this)
      go_upto_region 3 with fail
      refine plain_ (fun wq => Below wr.heap.size wr wq) (fun _ => True) reg_34_3 rfl inv0 (fun _ _ _ _ => trivial) (Below.refl _ _) trivial ?_
      refine w_move (.inl rfl) (fun vs w hK => ⟨wants_none rfl, rho_out rfl rfl⟩) ?_
      refine w_move (.inl rfl) (fun vs w hK => ⟨wants_none rfl, rho_out rfl rfl⟩) ?_
      refine w_val [(9, _)] (_) (fun vs w hK => ⟨wants_none rfl, rho_in rfl (fv (hK 1 (memE rfl))), trivial⟩) rfl (fun wq hI => by exact run_len_str rfl Try.underlying9 rfl (n := (n : Int)) (by rw [HN.out])) ?_
      refine w_val [(8, _), (10, _)] (_) (fun vs w hK => ⟨wants_none rfl, rho_in rfl (fv (hK 0 (memE rfl))), rho_in rfl (fv (hK 2 (memE rfl))), trivial⟩) rfl (fun wq hI => by exact run_int_lss rfl rfl rfl rfl) ?_
      refine w_move (.inl rfl) (fun vs w hK => ⟨wants_none rfl, rho_in rfl (fv (hK 3 (memE rfl)))⟩) ?_
      refine w_moveG (.inl rfl) (fun vs w hK => wantsT rfl (fv (hK 4 (memE rfl)))) (fun hG vs w hK => (rho_out rfl rfl)) ?_
      refine w_moveG (.inl rfl) (fun vs w hK => wantsT rfl (fv (hK 4 (memE rfl)))) (fun hG vs w hK => (rho_out rfl rfl)) ?_
      refine w_moveG (.inl rfl) (fun vs w hK => wantsT rfl (fv (hK 4 (memE rfl)))) (fun hG vs w hK => (rho_out rfl rfl)) ?_
      refine w_valG [(15, _)] (_) (fun vs w hK => wantsT rfl (fv (hK 4 (memE rfl)))) (fun hG vs w hK => ⟨(rho_in rfl (fvg (hK 7 (memE rfl)) hG)), trivial⟩) rfl (fun hG wq hI => by exact run_int_add rfl rfl rfl (c := ((k + 2 : Nat) : Int)) (by rw [i64_id (by omega) (by omega)]; omega)) ?_
      refine w_moveG (.inl rfl) (fun vs w hK => wantsT rfl (fv (hK 4 (memE rfl)))) (fun hG vs w hK => (rho_out rfl rfl)) ?_
      refine w_valG [(17, _)] (_) (fun vs w hK => wantsT rfl (fv (hK 4 (memE rfl)))) (fun hG vs w hK => ⟨(rho_in rfl (fvg (hK 9 (memE rfl)) hG)), trivial⟩) rfl (fun hG wq hI => by exact run_len_str rfl Try.underlying9 rfl (n := (n : Int)) (by rw [HN.out])) ?_
      refine w_valG [(16, _), (18, _)] (_) (fun vs w hK => wantsT rfl (fv (hK 4 (memE rfl)))) (fun hG vs w hK => ⟨(rho_in rfl (fvg (hK 8 (memE rfl)) hG)), (rho_in rfl (fvg (hK 10 (memE rfl)) hG)), trivial⟩) rfl (fun hG wq hI => by exact op_min2 rfl rfl rfl (mn_nat _ _)) ?_
      refine w_valG [(13, _), (14, _), (19, _)] (_) (fun vs w hK => wantsT rfl (fv (hK 4 (memE rfl)))) (fun hG vs w hK => ⟨(rho_in rfl (fvg (hK 5 (memE rfl)) hG)), (rho_in rfl (fvg (hK 6 (memE rfl)) hG)), (rho_in rfl (fvg (hK 11 (memE rfl)) hG)), trivial⟩) rfl (fun hG wq hI => by exact op_cut_mid (a := k) (b := min (k + 2) n) rfl Try.underlying9 rfl rfl rfl rfl rfl (by omega) (by rw [← HN.out]; exact Nat.min_le_right _ _) rfl) ?_
      refine w_valG [(20, _)] (_) (fun vs w hK => wantsT rfl (fv (hK 4 (memE rfl)))) (fun hG vs w hK => ⟨(rho_in rfl (fvg (hK 12 (memE rfl)) hG)), trivial⟩) rfl (fun hG wq hI => by exact op_str_nq rfl rfl rfl rfl) ?_
      refine w_and rfl (fun vs w hK => wants_none rfl) (fun vs w hK => (rho_in rfl (fv (hK 4 (memE rfl))))) (fun hB vs w hK => (rho_in rfl (fvg (hK 13 (memE rfl)) hB))) ?_
      refine w_as (c' := .bool true) (congrArg Value.bool H3.out) ?_
      refine w_endM [false, false, false, false, false, false, false, false, false, false, false, false, false, false, true] rfl rfl rfl (fun vs wq hI hF => ?_)
      simp only [List.reverse_cons, List.reverse_nil, List.nil_append, List.cons_append, finL_val, finL_of, finL_any, finL_app, finL_new, finL_gr, finL_row, finL_box, finL_nil, Act.put, List.setIfInBounds_toArray, List.set_cons_zero, List.set_cons_succ, Nat.reduceAdd, maskF, finL_imp, Bool.not_false, Bool.not_true, Bool.true_and, Bool.false_and]
      have HO2 := Lib.hid (gr_below HO.out hI)
      have HB2 := Lib.hid (below_then HB.out HB.out.size hI)
      clear hI hF HO HB H3
      obtain ⟨w2, rfl⟩ : ∃ w2 : World, w2 = wq := ⟨_, rfl⟩
      obtain ⟨hkn, hx2⟩ := hx
      have hks : k < s.size := by rw [← HN.out]; exact hkn
      obtain ⟨c, hcc⟩ : ∃ c : Nat, (s[k]'hks).toNat = c := ⟨_, rfl⟩
      have hc1 : L.getD k 0 = (c : Int) := by rw [HL.out, ← at_str s k hks, hcc]
      have hD : L.drop k = (c : Int) :: L.drop (k + 1) := by
        rw [List.drop_eq_getElem_cons (by rw [HLL.out]; exact hkn)]
        rw [List.getD_eq_getElem?_getD, List.getElem?_eq_getElem (by rw [HLL.out]; exact hkn), Option.getD_some] at hc1
        rw [hc1]
      have HD := Lib.hid hD
      have HX := Lib.hid hx2
      clear hc1 hD hx2
      by_cases hz : c = 0
      · subst hz
        have t3 : (((0 : Nat) : Int) == 0) = true := rfl
        by_cases hk1 : k + 1 = n
        · have t4 : ((k : Int) + 1 == (s.size : Int)) = true := by rw [beq_iff_eq, ← HN.out]; omega
          have HF : Hid (R = (Ent.zero, 2)) := Lib.hid (by
            rw [HR.out, outer_none]
            · rfl
            · rw [HS.out, HD.out, List.drop_eq_nil_of_le (by rw [HLL.out]; omega)]
              show ahead nm (scan [0]) = none
              rw [scan_zero]; rfl)
          clear HS HD HX
          go_wp2_with (first
            | (at_builtin; refine gapp_one (enc := Value.int .u8) (h1 := int_one .u8) tb (p := (0 : Int)) rfl (.tmp 25) (.tmp 29) rfl rfl rfl HO2.out HB2.out HB2.out.size ?cL ?_; (case cL => omega); intro v6 w6 ho hb6 hs1 hf; have HB6 : Hid (Below w1.heap.size w1 w6) := Lib.hid hb6; have HX6 := Lib.hid (box_below HG1.out hb6); clear ho hb6 hs1 hf)
            | (refine wpList_store_box rfl 61 (.tmp 2) (.tmp 47) rfl w.heap.size Ent.zero.cells rfl rfl HX6.out rfl (by show _ = some 4; kernel_rfl) rfl ?_; intro w7 hs7; have HS7 := Lib.hid hs7; clear hs7))
          (try simp only [Exit.inBlock, Exit.then])
          refine bodyPost_ret (results_box_tmp rfl rfl (loadVar_box HS7.out.at_ Try.underlying61 rfl (by show _ = some 4; kernel_rfl))) rfl ?_
          refine ⟨by rw [HF.out]; rfl, HS7.out.then_ (below_then HW1.out HW1.out.size HB6.out) (Nat.le_refl _)⟩
        · have hk2 : k + 1 < n := by omega
          have t4 : ((k : Int) + 1 == (s.size : Int)) = false := by rw [beq_eq_false_iff_ne, ← HN.out]; omega
          have hks1 : k + 1 < s.size := by rw [← HN.out]; exact hk2
          obtain ⟨d, hdd⟩ : ∃ d : Nat, (s[k + 1]'hks1).toNat = d := ⟨_, rfl⟩
          have hd1 : L.getD (k + 1) 0 = (d : Int) := by rw [HL.out, ← at_str s (k + 1) hks1, hdd]
          have hD2 : L.drop (k + 1) = (d : Int) :: L.drop (k + 2) := by
            rw [List.drop_eq_getElem_cons (by rw [HLL.out]; exact hk2)]
            rw [List.getD_eq_getElem?_getD, List.getElem?_eq_getElem (by rw [HLL.out]; exact hk2), Option.getD_some] at hd1
            rw [hd1]
          have hdd1 : (d : Int) ≠ 1 := fun e => HX.out (by rw [HD.out, hD2, e]; rfl)
          have HD2 := Lib.hid hD2
          have i0 : (0 : Int) ≤ (k : Int) + 1 := by omega
          have i1 : (k : Int) + 1 < (s.size : Int) := by omega
          clear hd1 hD2
          by_cases h255 : d = 255
          · subst h255
            have HS2 : Hid (scan L = ahead (nm ++ [0]) (scan (L.drop (k + 2)))) := Lib.hid (by
              rw [HS.out, HD.out, HD2.out]
              show ahead nm (scan (0 :: 255 :: L.drop (k + 2))) = _
              rw [scan_esc0, ahead_snoc])
            clear HS HD HX HD2 hdd1
            go_wp2_with (at_builtin; refine gapp_one (enc := Value.int .u8) (h1 := int_one .u8) tb (p := (0 : Int)) rfl (.tmp 25) (.tmp 29) rfl rfl rfl HO2.out HB2.out HB2.out.size ?cL ?_; (case cL => omega); intro v6 w6 ho hb6 hs1 hf; have HO6 : Hid (GrB w6 w1.heap.size v6 (nm ++ [0])) := Lib.hid ho; have HB6 : Hid (Below w1.heap.size w1 w6) := Lib.hid hb6; clear ho hb6 hs1 hf)
            go_roundw
            case rel => exact ⟨k + 2, _, _, rfl, by go_num, by omega, by simp; omega, HO6, HB6, HS2⟩
            case measure => simp [intOf]; omega
          · have HF : Hid (R = (Ent.zero, 2)) := Lib.hid (by
              rw [HR.out, outer_none]
              · rfl
              · rw [HS.out, HD.out, HD2.out]
                show ahead nm (scan (0 :: (d : Int) :: L.drop (k + 2))) = none
                rw [scan_bad _ hdd1 (by omega)]; rfl)
            have t5 : ((d : Int) == 255) = false := by rw [beq_eq_false_iff_ne]; omega
            clear HS HD HX HD2 hdd1
            go_wp2_with (first
              | (at_builtin; refine gapp_one (enc := Value.int .u8) (h1 := int_one .u8) tb (p := (0 : Int)) rfl (.tmp 25) (.tmp 29) rfl rfl rfl HO2.out HB2.out HB2.out.size ?cL ?_; (case cL => omega); intro v6 w6 ho hb6 hs1 hf; have HB6 : Hid (Below w1.heap.size w1 w6) := Lib.hid hb6; have HX6 := Lib.hid (box_below HG1.out hb6); clear ho hb6 hs1 hf)
              | (refine wpList_store_box rfl 61 (.tmp 2) (.tmp 47) rfl w.heap.size Ent.zero.cells rfl rfl HX6.out rfl (by show _ = some 4; kernel_rfl) rfl ?_; intro w7 hs7; have HS7 := Lib.hid hs7; clear hs7))
            (try simp only [Exit.inBlock, Exit.then])
            refine bodyPost_ret (results_box_tmp rfl rfl (loadVar_box HS7.out.at_ Try.underlying61 rfl (by show _ = some 4; kernel_rfl))) rfl ?_
            refine ⟨by rw [HF.out]; rfl, HS7.out.then_ (below_then HW1.out HW1.out.size HB6.out) (Nat.le_refl _)⟩
      · have t3 : ((c : Int) == 0) = false := by rw [beq_eq_false_iff_ne]; omega
        have HS2 : Hid (scan L = ahead (nm ++ [(c : Int)]) (scan (L.drop (k + 1)))) := Lib.hid (by rw [HS.out, HD.out, scan_cons _ (by omega), ahead_snoc])
        clear HS HD HX hz
        go_wp2_with (at_builtin; refine gapp_one (enc := Value.int .u8) (h1 := int_one .u8) tb (p := (c : Int)) rfl (.tmp 25) (.tmp 29) rfl rfl rfl HO2.out HB2.out HB2.out.size ?cL ?_; (case cL => omega); intro v6 w6 ho hb6 hs1 hf; have HO6 : Hid (GrB w6 w1.heap.size v6 (nm ++ [(c : Int)])) := Lib.hid ho; have HB6 : Hid (Below w1.heap.size w1 w6) := Lib.hid hb6; clear ho hb6 hs1 hf)
        go_roundw
        case rel => exact ⟨k + 1, _, _, rfl, by go_num, by omega, by simp; omega, HO6, HB6, HS2⟩
        case measure => simp [intOf]; omega
    · have HS2 : Hid (scan L = some (nm, L.drop k)) := Lib.hid (by
        rw [HS.out, scan_stop L n k HLL.out hx]
        show some (nm ++ [], L.drop k) = _
        rw [List.append_nil])
      have H3 : Hid ((decide ((k : Int) < (n : Int)) && !decide (s.extract k (min (k + 2) n) = ⟨#[0, 1]⟩)) = false) := Lib.hid (by
        have := cut2 s k false (fun h => by
          rw [← HL.out]
          by_cases g : (L.drop k).take 2 = [0, 1]
          · simp [g]
          · exact absurd ⟨by rw [HN.out]; simpa using h, g⟩ hx) (fun _ => rfl)
        rw [← HN.out] at this
        exact this)
      clear hx HS
      go_upto_region 3 with fail
      refine plain_ (fun wq => Below wr.heap.size wr wq) (fun _ => True) reg_34_3 rfl inv0 (fun _ _ _ _ => trivial) (Below.refl _ _) trivial ?_
      refine w_move (.inl rfl) (fun vs w hK => ⟨wants_none rfl, rho_out rfl rfl⟩) ?_
      refine w_move (.inl rfl) (fun vs w hK => ⟨wants_none rfl, rho_out rfl rfl⟩) ?_
      refine w_val [(9, _)] (_) (fun vs w hK => ⟨wants_none rfl, rho_in rfl (fv (hK 1 (memE rfl))), trivial⟩) rfl (fun wq hI => by exact run_len_str rfl Try.underlying9 rfl (n := (n : Int)) (by rw [HN.out])) ?_
      refine w_val [(8, _), (10, _)] (_) (fun vs w hK => ⟨wants_none rfl, rho_in rfl (fv (hK 0 (memE rfl))), rho_in rfl (fv (hK 2 (memE rfl))), trivial⟩) rfl (fun wq hI => by exact run_int_lss rfl rfl rfl rfl) ?_
      refine w_move (.inl rfl) (fun vs w hK => ⟨wants_none rfl, rho_in rfl (fv (hK 3 (memE rfl)))⟩) ?_
      refine w_moveG (.inl rfl) (fun vs w hK => wantsT rfl (fv (hK 4 (memE rfl)))) (fun hG vs w hK => (rho_out rfl rfl)) ?_
      refine w_moveG (.inl rfl) (fun vs w hK => wantsT rfl (fv (hK 4 (memE rfl)))) (fun hG vs w hK => (rho_out rfl rfl)) ?_
      refine w_moveG (.inl rfl) (fun vs w hK => wantsT rfl (fv (hK 4 (memE rfl)))) (fun hG vs w hK => (rho_out rfl rfl)) ?_
      refine w_valG [(15, _)] (_) (fun vs w hK => wantsT rfl (fv (hK 4 (memE rfl)))) (fun hG vs w hK => ⟨(rho_in rfl (fvg (hK 7 (memE rfl)) hG)), trivial⟩) rfl (fun hG wq hI => by exact run_int_add rfl rfl rfl (c := ((k + 2 : Nat) : Int)) (by rw [i64_id (by omega) (by omega)]; omega)) ?_
      refine w_moveG (.inl rfl) (fun vs w hK => wantsT rfl (fv (hK 4 (memE rfl)))) (fun hG vs w hK => (rho_out rfl rfl)) ?_
      refine w_valG [(17, _)] (_) (fun vs w hK => wantsT rfl (fv (hK 4 (memE rfl)))) (fun hG vs w hK => ⟨(rho_in rfl (fvg (hK 9 (memE rfl)) hG)), trivial⟩) rfl (fun hG wq hI => by exact run_len_str rfl Try.underlying9 rfl (n := (n : Int)) (by rw [HN.out])) ?_
      refine w_valG [(16, _), (18, _)] (_) (fun vs w hK => wantsT rfl (fv (hK 4 (memE rfl)))) (fun hG vs w hK => ⟨(rho_in rfl (fvg (hK 8 (memE rfl)) hG)), (rho_in rfl (fvg (hK 10 (memE rfl)) hG)), trivial⟩) rfl (fun hG wq hI => by exact op_min2 rfl rfl rfl (mn_nat _ _)) ?_
      refine w_valG [(13, _), (14, _), (19, _)] (_) (fun vs w hK => wantsT rfl (fv (hK 4 (memE rfl)))) (fun hG vs w hK => ⟨(rho_in rfl (fvg (hK 5 (memE rfl)) hG)), (rho_in rfl (fvg (hK 6 (memE rfl)) hG)), (rho_in rfl (fvg (hK 11 (memE rfl)) hG)), trivial⟩) rfl (fun hG wq hI => by exact op_cut_mid (a := k) (b := min (k + 2) n) rfl Try.underlying9 rfl rfl rfl rfl rfl (by have := of_decide_eq_true hG; omega) (by rw [← HN.out]; exact Nat.min_le_right _ _) rfl) ?_
      refine w_valG [(20, _)] (_) (fun vs w hK => wantsT rfl (fv (hK 4 (memE rfl)))) (fun hG vs w hK => ⟨(rho_in rfl (fvg (hK 12 (memE rfl)) hG)), trivial⟩) rfl (fun hG wq hI => by exact op_str_nq rfl rfl rfl rfl) ?_
      refine w_and rfl (fun vs w hK => wants_none rfl) (fun vs w hK => (rho_in rfl (fv (hK 4 (memE rfl))))) (fun hB vs w hK => (rho_in rfl (fvg (hK 13 (memE rfl)) hB))) ?_
      refine w_as (c' := .bool false) (congrArg Value.bool H3.out) ?_
      refine w_endM [false, false, false, false, false, false, false, false, false, false, false, false, false, false, true] rfl rfl rfl (fun vs wq hI hF => ?_)
      simp only [List.reverse_cons, List.reverse_nil, List.nil_append, List.cons_append, finL_val, finL_of, finL_any, finL_app, finL_new, finL_gr, finL_row, finL_box, finL_nil, Act.put, List.setIfInBounds_toArray, List.set_cons_zero, List.set_cons_succ, Nat.reduceAdd, maskF, finL_imp, Bool.not_false, Bool.not_true, Bool.true_and, Bool.false_and]
      have HO2 := Lib.hid (gr_below HO.out hI)
      have HB2 := Lib.hid (below_then HB.out HB.out.size hI)
      clear hI hF HO HB H3
      obtain ⟨w2, rfl⟩ : ∃ w2 : World, w2 = wq := ⟨_, rfl⟩
      have HLD : Hid ((L.drop k).length = n - k) := Lib.hid (by rw [List.length_drop, HLL.out])
      by_cases h10 : n - k = 10
      · have t6 : (wrap64 ((s.size : Int) - (k : Int)) != 10) = false := by have := HN.out; rw [show wrap64 ((s.size : Int) - (k : Int)) = (s.size : Int) - (k : Int) by unfold wrap64; omega]; simp; omega
        have hbl : k + 2 ≤ s.size := by have := HN.out; omega
        have i0 : (0 : Int) ≤ (k : Int) + 2 := by omega
        have i1 : (k : Int) + 2 ≤ (s.size : Int) := by omega
        obtain ⟨T, hT⟩ : ∃ T, T = s.extract (k + 2) s.size := ⟨_, rfl⟩
        have hTn : numsOf T = (L.drop k).drop 2 := by
          rw [hT, numsOf_extract, ← HL.out, List.drop_drop, List.take_of_length_le]
          rw [List.length_drop, HLL.out, ← HN.out]
          omega
        have hTs : T.size = 8 := by rw [← numsOf_length, hTn, List.length_drop, HLD.out]; omega
        obtain ⟨v3, w3, hcv, hb3, ho3, _⟩ := conv_bytes (t := 25) Try.underlying9 Try.underlying25 Try.underlying5 w2 T (by simp only [maxLen]; omega) (Nat.le_refl w2.heap.size)
        obtain ⟨A3, n3, c3, rfl, h3c, HL3, h3m, hr3⟩ := gr_open ho3
        obtain rfl : n3 = 8 := by have := HL3.out; rw [numsOf_length, hTs] at this; exact this.symm
        have C1 := Lib.hid (big_val A3 8 c3 (numsOf T) w3 hr3 HL3.out (by omega) h3c (numsOf_isByte T))
        have hbv : beVal ((L.drop k).drop 2) < 18446744073709551616 := by
          have h8 : ((L.drop k).drop 2).length = 8 := by rw [List.length_drop, HLD.out]; omega
          have := beVal_lt ((HBT.out.drop k).drop 2)
          rw [h8] at this
          exact this
        rw [List.take_of_length_le (by rw [numsOf_length, hTs]; omega), hTn] at C1
        have HB3 := Lib.hid (below_then HB2.out HB2.out.size hb3)
        have HO3 := Lib.hid (gr_below HO2.out hb3)
        rw [hT] at hcv
        clear ho3 hr3 hb3 hT hTn hTs
        obtain ⟨N, hN⟩ : ∃ N, N = outN (L.drop k) := ⟨_, rfl⟩
        have hnot : Go.bits .xor .u64 IntKind.u64.max ((beVal ((L.drop k).drop 2) : Nat) : Int) = (N : Int) := by rw [u64_not _ hbv, hN]; rfl
        have hNl : N < 18446744073709551616 := by rw [hN]; unfold outN; omega
        have HF : Hid (R = told (if (outE nm N).check = 0 then some (outE nm N) else none)) := Lib.hid (by rw [HR.out, outer_long HS2.out (by rw [HLD.out]; exact h10), hN])
        clear hN HS2
        generalize beVal ((L.drop k).drop 2) = bv at C1 hnot hbv
        have hcv2 := conv_gr (dst := 9) tb Try.underlying5 Try.underlying9 HO3.out
        have hand : (Go.bits .and .u64 (N : Int) 1 == 0) = decide (N % 2 = 0) := by
          have h := u64_and_nat N 1 hNl (by omega)
          rw [show ((1 : Nat) : Int) = 1 from rfl, Nat.and_one_is_mod] at h
          rw [h, Bool.eq_iff_iff, beq_iff_eq, decide_eq_true_iff]
          omega
        have hnl : (strOfNums nm).size ≤ n := by rw [strOf_size]; omega
        obtain ⟨X, hX⟩ : ∃ X, X = outE nm N := ⟨_, rfl⟩
        rw [← hX] at HF
        have hXo : X.ok := by rw [hX]; exact ⟨by show N / 2 < _; omega, by show (strOfNums nm).size ≤ _; omega, by show (0 : Nat) ≤ _; omega⟩
        have hXc : X.cells = [.string (strOfNums nm), .int .u64 ((N : Int) / 2), .bool (decide (N % 2 = 0)), .string ⟨#[]⟩] := by rw [hX]; rfl
        have CK : Hid (∀ wq, Calls Try.prog 31 #[.agg #[.string (strOfNums nm), .int .u64 ((N : Int) / 2), .bool (decide (N % 2 = 0)), .string ⟨#[]⟩]] wq fun e w' => e = .returned (.int .i64 X.check) ∧ Below wq.heap.size wq w') := Lib.hid (fun wq => by
          have := check_any X hXo wq
          rw [Ent.ag, hXc] at this
          exact this)
        have HXC := Lib.hid hXc
        clear hX hXo hXc hnl hNl
        go_wp2_with fail
        refine C1.out.mono ?_
        rintro e w' ⟨rfl, rfl⟩
        by_cases hc0 : X.check = 0
        · have t8 : ((X.check : Int) != 0) = false := by rw [hc0]; rfl
          rw [if_pos hc0] at HF
          go_wp2_with fail
          refine (CK.out _).mono ?_
          rintro e w5 ⟨rfl, hb5⟩
          have HB4 : Hid (Below w1.heap.size w1 w5) := Lib.hid (below_then (below_alloc HB3.out _) (below_alloc HB3.out _).size hb5)
          have HX6 := Lib.hid (box_below HG1.out HB4.out)
          have HX7 : Hid (w5.heap[w3.heap.size]? = some (.cells X.cells.toArray 61)) := Lib.hid (box_below (by rw [HXC.out]; exact heap_alloc_new w3 _) hb5)
          clear hb5
          go_wp2_with (first
            | (refine wpList_load_box rfl 61 (.tmp 7) rfl w3.heap.size X.cells rfl HX7.out Try.underlying61 rfl (by show _ = some 4; kernel_rfl) ?_)
            | (refine wpList_store_box rfl 61 (.tmp 2) (.tmp 73) rfl w.heap.size X.cells rfl rfl HX6.out rfl (by show _ = some 4; kernel_rfl) rfl ?_; intro w7 hs7; have HS7 := Lib.hid hs7; clear hs7))
          (try simp only [Exit.inBlock, Exit.then])
          refine bodyPost_ret (results_box_tmp rfl rfl (loadVar_box HS7.out.at_ Try.underlying61 rfl (by show _ = some 4; kernel_rfl))) rfl ?_
          refine ⟨by rw [HF.out]; rfl, HS7.out.then_ (below_then HW1.out HW1.out.size HB4.out) (Nat.le_refl _)⟩
        · have t8 : ((X.check : Int) != 0) = true := by simp; omega
          rw [if_neg hc0] at HF
          go_wp2_with fail
          refine (CK.out _).mono ?_
          rintro e w5 ⟨rfl, hb5⟩
          have HB4 : Hid (Below w1.heap.size w1 w5) := Lib.hid (below_then (below_alloc HB3.out _) (below_alloc HB3.out _).size hb5)
          have HX6 := Lib.hid (box_below HG1.out HB4.out)
          clear hb5
          go_wp2_with (refine wpList_store_box rfl 61 (.tmp 2) (.tmp 72) rfl w.heap.size Ent.zero.cells rfl rfl HX6.out rfl (by show _ = some 4; kernel_rfl) rfl ?_; intro w7 hs7; have HS7 := Lib.hid hs7; clear hs7)
          (try simp only [Exit.inBlock, Exit.then])
          refine bodyPost_ret (results_box_tmp rfl rfl (loadVar_box HS7.out.at_ Try.underlying61 rfl (by show _ = some 4; kernel_rfl))) rfl ?_
          refine ⟨by rw [HF.out]; rfl, HS7.out.then_ (below_then HW1.out HW1.out.size HB4.out) (Nat.le_refl _)⟩
      · have t6 : (wrap64 ((s.size : Int) - (k : Int)) != 10) = true := by have := HN.out; rw [show wrap64 ((s.size : Int) - (k : Int)) = (s.size : Int) - (k : Int) by unfold wrap64; omega]; simp; omega
        have HF : Hid (R = (Ent.zero, 2)) := Lib.hid (by
          rw [HR.out, outer_short HS2.out (by rw [HLD.out]; exact h10)]
          rfl)
        have HX6 := Lib.hid (box_below HG1.out HB2.out)
        clear HS2
        go_wp2_with (refine wpList_store_box rfl 61 (.tmp 2) (.tmp 53) rfl w.heap.size Ent.zero.cells rfl rfl HX6.out rfl (by show _ = some 4; kernel_rfl) rfl ?_; intro w7 hs7; have HS7 := Lib.hid hs7; clear hs7)
        (try simp only [Exit.inBlock, Exit.then])
        refine bodyPost_ret (results_box_tmp rfl rfl (loadVar_box HS7.out.at_ Try.underlying61 rfl (by show _ = some 4; kernel_rfl))) rfl ?_
        refine ⟨by rw [HF.out]; rfl, HS7.out.then_ (below_then HW1.out HW1.out.size HB2.out) (Nat.le_refl _)⟩
end Go.Proofs.Ytnkeijdpjcclcaa.Key
-- KeyE
/- The walk of the law KeyChecks. -/
namespace Go.Proofs.Ytnkeijdpjcclcaa.Key
set_option linter.unusedVariables false
set_option linter.unusedSimpArgs false
open Go.Proofs.Ytnkeijdpjcclcaa.Kit Go.Proofs.Ytnkeijdpjcclcaa.Num Go.RowKit Go.Proofs.YtnkeijdpjcclcaaW.PrintWords Go.Proofs.YtnkeijdpjcclcaaW.PrintLast Go.Proofs.YtnkeijdpjcclcaaW.PrintMore NumPure
theorem run_int_neg {P : Program} {o : Oper} {l : List (Nat × Value)} {x : Operand} {t : TypeId} {k : IntKind} {a c : Int} {w : World} (ho : o.op = .unOp .neg t x) (hx : lk l x = .int k a) (h : k.wrap (-a) = c) : (execOp (lk l) o).run P w = .ok (.value (.int k c)) w := by
  subst h
  unfold execOp
  simp [ho, hx, Op.unary, Op.intArith]
theorem run_str_eql {P : Program} {o : Oper} {l : List (Nat × Value)} {x y : Operand} {t : TypeId} {m : Nat} {a b : ByteArray} {w : World} (ho : o.op = .binOp .eql t x y m) (hx : lk l x = .string a) (hy : lk l y = .string b) (h : a ≠ b) : (execOp (lk l) o).run P w = .ok (.value (.bool false)) w := by
  unfold execOp
  simp [ho, hx, hy, eqGuard, binOp, Op.stringOp]
  intro e
  apply h
  exact ByteArray.ext (Array.toList_inj.1 (by rw [← ByteArray.toList_eq, ← ByteArray.toList_eq]; exact e))
theorem run_str_lss {P : Program} {o : Oper} {l : List (Nat × Value)} {x y : Operand} {t : TypeId} {m : Nat} {a b : ByteArray} {r : Bool} {w : World} (ho : o.op = .binOp .lss t x y m) (hx : lk l x = .string a) (hy : lk l y = .string b) (h : Op.bytesLess a.toList b.toList = r) : (execOp (lk l) o).run P w = .ok (.value (.bool r)) w := by
  subst h
  unfold execOp
  simp [ho, hx, hy, eqGuard, binOp, Op.stringOp]
theorem run_bool_eql {P : Program} {o : Oper} {l : List (Nat × Value)} {x y : Operand} {t : TypeId} {m : Nat} {a b r : Bool} {w : World} (ho : o.op = .binOp .eql t x y m) (hx : lk l x = .bool a) (hu : P.underlying t = some .bool) (hy : lk l y = .bool b) (h : (a == b) = r) : (execOp (lk l) o).run P w = .ok (.value (.bool r)) w := by
  subst h
  unfold execOp
  simp [ho, hx, hy, eqGuard, binOp, Op.equal]
  unfold Op.maxDepth Op.equalIn
  simp only [Sem.run_bind, run_underlying hu, Sem.run_pure, Result.andThen_ok]
  try rfl
theorem run_bool_neq {P : Program} {o : Oper} {l : List (Nat × Value)} {x y : Operand} {t : TypeId} {m : Nat} {a b r : Bool} {w : World} (ho : o.op = .binOp .neq t x y m) (hx : lk l x = .bool a) (hu : P.underlying t = some .bool) (hy : lk l y = .bool b) (h : (a != b) = r) : (execOp (lk l) o).run P w = .ok (.value (.bool r)) w := by
  subst h
  unfold execOp
  simp [ho, hx, hy, eqGuard, binOp, Op.equal]
  unfold Op.maxDepth Op.equalIn
  simp only [Sem.run_bind, run_underlying hu, Sem.run_pure, Result.andThen_ok]
  try rfl
structure Box3 (g : Nat) (x y z : Ent) (w : World) : Prop where
  a : w.heap[g]? = some (.cells x.cells.toArray 61)
  b : w.heap[g + 1]? = some (.cells y.cells.toArray 61)
  c : w.heap[g + 2]? = some (.cells z.cells.toArray 61)
theorem Box3.below {g : Nat} {x y z : Ent} {w w' : World} (h : Box3 g x y z w) (hb : Below w.heap.size w w') : Box3 g x y z w' := ⟨box_below h.a hb, box_below h.b hb, box_below h.c hb⟩
theorem box3_new (w : World) (x y z : Ent) : Box3 w.heap.size x y z (((w.alloc (.cells x.cells.toArray 61)).alloc (.cells y.cells.toArray 61)).alloc (.cells z.cells.toArray 61)) :=
  ⟨(heap_alloc_old _ _ (by simp; omega)).trans ((heap_alloc_old _ _ (by simp)).trans (heap_alloc_new w _)), (heap_alloc_old _ _ (by simp)).trans (by have := heap_alloc_new (w.alloc (.cells x.cells.toArray 61)) (.cells y.cells.toArray 61); simpa using this), by have := heap_alloc_new ((w.alloc (.cells x.cells.toArray 61)).alloc (.cells y.cells.toArray 61)) (.cells z.cells.toArray 61); simpa using this⟩
theorem load_ent {w : World} {g : Nat} {x : Ent} (h : w.heap[g]? = some (.cells x.cells.toArray 61)) : (Instr.loadAt 61 (.pointer (some ⟨g, 0, none⟩))).run Try.prog w = .ok x.ag w :=
  run_loadAt_mid w _ 0 61 x.cells _ (range_block h) Try.underlying61 rfl (by
    show _ = some 4
    kernel_rfl)
theorem cell_ent {w : World} {g i : Nat} {x : Ent} {v : Value} (h : w.heap[g]? = some (.cells x.cells.toArray 61)) (hv : x.cells[i]? = some v) : w.cell? ⟨g, i, none⟩ = some v := by
  simp only [World.cell?, h]
  simpa using hv
end Go.Proofs.Ytnkeijdpjcclcaa.Key
-- PgO
/- Changes as pairs: page.Of; slices of entries as arguments. -/
namespace Go.Proofs.Ytnkeijdpjcclcaa.Pg
set_option linter.unusedVariables false
set_option linter.unusedSimpArgs false
open Go.Proofs.Ytnkeijdpjcclcaa.Kit Go.Proofs.Ytnkeijdpjcclcaa.Num Go.RowKit Go.Proofs.YtnkeijdpjcclcaaW.PrintWords Go.Proofs.YtnkeijdpjcclcaaW.PrintLast Go.Proofs.YtnkeijdpjcclcaaW.PrintMore NumPure Key
theorem stE : StTy Try.prog 59 61 4 := ⟨Try.underlying59, by kernel_rfl⟩
theorem info61 : (Try.prog.info? 61).map (·.size) = some 4 := by kernel_rfl
instance : Inhabited Ent := ⟨Ent.zero⟩
theorem open_ents {H : Type} {enc : TypeId × Value → H} {w : World} {base m : Nat} {held : Bool} {A : Option Addr} {n c : Nat} {x : DataW H × List MemPlace} (h : DataW.trod enc Try.prog w base (fun _ => true) held m 59 [.slice A n c] = some x) : ∃ xs, Sts Ent.cells 4 w A n xs ∧ n ≤ c ∧ ∀ z ∈ xs, Ent.ok z :=
  open_sts Ent.cells Ent.ok Try.underlying59 (by kernel_rfl) (fun cs m' y hy => by
    obtain ⟨y0, y1, y2, y3, n, _, hl, h0, h1, h2, h3⟩ := Go.Joins.trod_struct4 Try.underlying61 hy
    rw [show Try.prog.cellsOf 61 = 4 by kernel_rfl] at hl
    change DataW.trod enc Try.prog w base _ held n 9 ((cs.drop 0).take (Try.prog.cellsOf 9)) = _ at h0
    change DataW.trod enc Try.prog w base _ held n 32 ((cs.drop 1).take (Try.prog.cellsOf 32)) = _ at h1
    change DataW.trod enc Try.prog w base _ held n 4 ((cs.drop 2).take (Try.prog.cellsOf 4)) = _ at h2
    change DataW.trod enc Try.prog w base _ held n 9 ((cs.drop 3).take (Try.prog.cellsOf 9)) = _ at h3
    rw [show Try.prog.cellsOf 9 = 1 by kernel_rfl] at h0 h3
    rw [show Try.prog.cellsOf 32 = 1 by kernel_rfl] at h1
    rw [show Try.prog.cellsOf 4 = 1 by kernel_rfl] at h2
    obtain ⟨a, e0, _, w0⟩ := DataW.trod_string Try.underlying9 h0
    obtain ⟨b, e1, _, w1⟩ := DataW.trod_int Try.underlying32 h1
    obtain ⟨d, e2, _⟩ := DataW.trod_bool Try.underlying4 h2
    obtain ⟨v, e3, _, w3⟩ := DataW.trod_string Try.underlying9 h3
    obtain ⟨q0, q1⟩ := wf_u64 w1
    obtain ⟨s, rfl⟩ : ∃ s : Nat, b = s := ⟨b.toNat, by omega⟩
    refine ⟨⟨a, s, d, v⟩, ?_, ⟨by show s < _; omega, w0, w3⟩⟩
    have := cut_cons e0 rfl (cut_cons e1 rfl (cut_cons e2 rfl (cut_cons e3 rfl (cut_end hl))))
    rw [List.drop_zero] at this
    exact this) h
def ofP (x : Ent) : PB := (x.inner, x.val)
def ofL (xs : List Ent) : List PB := xs.map ofP
theorem ofL_length (xs : List Ent) : (ofL xs).length = xs.length := by simp [ofL]
theorem inner_size {x : Ent} : x.inner.size ≤ 2 * x.key.size + 10 := by
  have h1 := esc_length (numsOf x.key)
  rw [numsOf_length] at h1
  rw [show x.inner = strOfNums (esc (numsOf x.key) ++ [0, 1] ++ be x.flip 8) from rfl, strOf_size, List.length_append, List.length_append, be_length]
  simp
  omega
/-- The law's guard. -/
def GoodE (xs : List Ent) (k : Nat) : Prop := ∀ j x, j < k → xs[j]? = some x → x.check = 0 ∧ x.val.size ≤ 300 ∧ (0 < j → ∀ y, xs[j - 1]? = some y → y.cmp x < 0)
theorem ofL_sizes {xs : List Ent} (h : GoodE xs xs.length) : ∀ p ∈ ofL xs, p.1.size ≤ 300 ∧ p.2.size ≤ 300 := by
  intro p hp
  obtain ⟨x, hx, rfl⟩ := List.mem_map.1 hp
  obtain ⟨j, hj, he⟩ := List.getElem_of_mem hx
  obtain ⟨h1, h2, _⟩ := h j x hj (by rw [List.getElem?_eq_getElem hj, he])
  have h3 := (check_zero.1 h1).2.1
  have h4 := inner_size (x := x)
  exact ⟨by show x.inner.size ≤ 300; omega, h2⟩
theorem ofL_good {xs : List Ent} (h : GoodE xs xs.length) (hn : xs.length ≤ 40) : Good (nn (ofL xs)) xs.length := by
  have hget : ∀ j (hj : j < xs.length), (ofL xs).getD j default = ofP xs[j] := fun j hj => by
    rw [List.getD_eq_getElem?_getD, List.getElem?_eq_getElem (by rw [ofL_length]; exact hj)]
    simp [ofL]
  intro k hk
  refine ⟨?_, ?_⟩
  · rcases Nat.eq_zero_or_pos k with h0 | h0
    · exact .inl h0
    · refine .inr ?_
      have hk1 : k - 1 < xs.length := by omega
      obtain ⟨c1, _, c3⟩ := h k xs[k] hk (List.getElem?_eq_getElem hk)
      obtain ⟨d1, _, _⟩ := h (k - 1) xs[k - 1] hk1 (List.getElem?_eq_getElem hk1)
      have hc := c3 h0 xs[k - 1] (List.getElem?_eq_getElem hk1)
      have e1 : lastAt (nn (ofL xs)) k = numsOf xs[k - 1].inner := by
        unfold lastAt
        rw [if_neg (by omega), nm_nn, hget _ hk1]
        rfl
      have e2 : nmAt (nn (ofL xs)) k = numsOf xs[k].inner := by
        rw [nm_nn, hget _ hk]
        rfl
      rw [e1, e2, ← less_nums, inner_less _ _ d1 c1 (by omega)]
      exact decide_eq_true hc
  · have hs : ∀ p ∈ nn (ofL xs), p.1.length ≤ 300 ∧ p.2.length ≤ 300 := by
      intro p hp
      obtain ⟨q, hq, rfl⟩ := List.mem_map.1 hp
      rw [numsOf_length, numsOf_length]
      exact ofL_sizes h q hq
    have := fit_gen hs (k + 1) (by rw [nn_length, ofL_length]; omega)
    unfold Fit
    omega
theorem reg_33_5 : RegOk (opsOf Try.f33 5) [[], [], [1], [], [3], [1, 2, 3, 4], [1, 2, 3, 4, 5], [0, 1, 2, 3, 4, 5, 6], [0, 1, 2, 3, 4, 5, 6, 7]] [7, 8] [some 12, some 13, some 14, some 15, some 16, some 17, some 18, some 19, some 3] := regOk (by kernel_rfl)
set_option maxRecDepth 20000 in
set_option maxHeartbeats 1600000 in
theorem of_any (A : Option Addr) (n c : Nat) (xs : List Ent) (w : World) (hl : Sts Ent.cells 4 w A n xs) (hok : ∀ z ∈ xs, z.ok) (hk : ∀ z ∈ xs, z.key.size ≤ 70000) (hn : n ≤ 1000) :
    Calls Try.prog 33 #[.slice A n c] w fun e w' => ∃ v, e = .returned v ∧ OwnK encP 2 30 w' w.heap.size v (ofL xs) ∧ Below w.heap.size w w' := by
  have HST := Lib.hid hl
  have HLEN := Lib.hid hl.len
  have HOK := Lib.hid hok
  have HKK := Lib.hid hk
  clear hl hok hk
  go_enter Try.func33, Try.ntmps33
  go_wp2_with fail
  go_loopw [3, 8] (fun out i wr => ∃ (k : Nat) (v : Value), v = out ∧ k ≤ n ∧ i = .int .i64 k ∧ Hid (OwnK encP 2 30 wr w.heap.size v (ofL (xs.take k))) ∧ Hid (Below w.heap.size w wr)) (fun _ i _ => n - (intOf i).toNat)
  case atStart => exact ⟨0, _, rfl, by omega, rfl, Lib.hid (ownk_nil _ _ _ _ _), Lib.hid (Below.refl _ _)⟩
  case round =>
    obtain ⟨k, v, hv, hk, rfl, HO, HW⟩ := hrel
    subst hv
    by_cases hlt : k < n
    · have t1 : decide ((k : Int) < (n : Int)) = true := decide_eq_true (by omega)
      obtain ⟨ad, rfl, hc⟩ := (sts_below HST.out HW.out).row (by omega)
      obtain ⟨x, hp⟩ : ∃ x : Ent, xs[k]? = some x := ⟨_, List.getElem?_eq_getElem (by rw [HLEN.out]; exact hlt)⟩
      have hcell := hc k _ hp
      have HXO := Lib.hid (HOK.out _ (List.mem_of_getElem? hp))
      have HXK := Lib.hid (HKK.out _ (List.mem_of_getElem? hp))
      have HSU : Hid (ofL (xs.take (k + 1)) = ofL (xs.take k) ++ [(x.inner, x.val)]) := Lib.hid (by
        rw [List.take_succ_eq_append_getElem (by rw [HLEN.out]; exact hlt)]
        rw [List.getElem?_eq_getElem (by rw [HLEN.out]; exact hlt)] at hp
        injection hp with hp
        rw [hp]
        simp [ofL, ofP])
      have hpl : (ofL (xs.take k)).length ≤ n := by rw [ofL_length, List.length_take]; omega
      generalize ofL (xs.take k) = ps at HO HSU hpl
      clear hc hp
      go_upto_region 5 with (first
        | (refine wpList_index_st rfl 59 _ _ rfl stE rfl rfl rfl hlt ?_)
        | (refine wpList_load_at rfl 61 _ rfl _ x.cells rfl hcell Try.underlying61 rfl info61 ?_)
        | (refine wpList_store_box rfl 61 (.tmp 5) (.tmp 11) rfl wr.heap.size x.cells rfl rfl (heap_alloc_new wr _) rfl info61 (by rfl) ?_; intro w4 hs4; have HS4 := Lib.hid hs4; clear hs4))
      have hb4 : Below wr.heap.size wr w4 := HS4.out.then_ (below_alloc (Below.refl _ _) _) (Nat.le_refl _)
      have HNE : Hid (v.ownBlock ≠ some wr.heap.size) := Lib.hid (fun h => by have := ownk_lt HO.out _ h; omega)
      have HJ0 : Hid (OwnK encP 2 30 w4.drew w.heap.size v ps) := Lib.hid (ownk_below HO.out (below_drew hb4))
      have HI0 : Hid (Keeps w wr.heap.size (.cells x.cells.toArray 61 (0, 0)) w4.drew) := Lib.hid ⟨below_drew (below_then HW.out HW.out.size hb4), HS4.out.at_⟩
      clear hb4 HS4 HO HW hcell
      generalize wr.heap.size = b4 at HNE HI0 ⊢
      refine draws_ (Keeps w b4 (.cells x.cells.toArray 61 (0, 0))) (fun W => OwnK encP 2 30 W w.heap.size v ps) (by kernel_rfl) reg_33_5 rfl keeps_below (fun W W' h k => ownk_below h k) HI0.out HJ0.out ?_
      refine w_move (.inl rfl) (fun vs w hK => ⟨wants_none rfl, rho_out rfl rfl⟩) ?_
      refine w_val [(5, _)] (x.ag) (fun vs w hK => ⟨wants_none rfl, rho_out rfl rfl, trivial⟩) rfl (fun wq hI => by exact run_load_op rfl rfl (load_ent hI.at_)) ?_
      refine w_call [(13, _)] _ _ (by decide) (fun vs w hK => ⟨wants_none rfl, rho_in rfl (fv (hK 1 (memE rfl))), trivial⟩) rfl rfl Try.func59 (by kernel_rfl) rfl (fun wq hI => inner_any x HXO.out HXK.out wq) (margs rfl) ?_
      refine w_val [(5, _)] _ (fun vs w hK => ⟨wants_none rfl, rho_out rfl rfl, trivial⟩) rfl (fun wq hI => by simp only [execOp, Option.map_some, Option.map_none, lk_tmp, lk_const, lkT_cons, ↓reduceIte, Nat.reduceEqDiff]; go_simp; (first | done | rfl)) ?_
      refine w_val [(15, _)] (_) (fun vs w hK => ⟨wants_none rfl, rho_in rfl (fv (hK 3 (memE rfl))), trivial⟩) rfl (fun wq hI => by exact run_load_cell (ad := ⟨b4, 3, none⟩) (v := .string x.val) rfl rfl rfl Try.underlying9 rfl (cell_ent hI.at_ rfl)) ?_
      refine w_val [(14, _), (16, _)] (.agg [Value.string x.inner, .string x.val].toArray) (fun vs w hK => ⟨wants_none rfl, rho_in rfl (fv (hK 2 (memE rfl))), rho_in rfl (fv (hK 4 (memE rfl))), trivial⟩) rfl (fun wq hI => by exact op_build rfl (lit30 _ _)) ?_
      refine w_any (FW.of (fun v' W => ∃ g, v' = .slice (some ⟨g, 0, none⟩) 1 1 ∧ W.heap[g]? = some (.cells [Value.string x.inner, .string x.val].toArray 30 (0, 0))) (fun _ _ _ h hb => h.elim fun g h => ⟨g, h.1, box_stays h.2 hb⟩)) (by decide) (fun vs wq hI hK => ?_) ?_
      · exact ob_run [(17, _)] (wants_none rfl) ⟨rho_in rfl (fv (hK 5 (memE rfl))), trivial⟩ rfl (op_lit1 et30 (by decide) rfl rfl (fill30 _ _)) ⟨below_alloc (Below.refl _ _) _, _, rfl, heap_alloc_new _ _⟩
      refine w_lin (FW.of (fun v' W => OwnK encP 2 30 W w.heap.size v' (ps ++ [(x.inner, x.val)])) (fun _ _ _ h hb => ownk_below h hb)) (by decide) (fun vs wq hI hJ hK => ?_) ?_
      · have hA := hJ (by decide) (by decide)
        obtain ⟨g, e1, e2⟩ : ∃ g, vs 6 = .slice (some ⟨g, 0, none⟩) 1 1 ∧ wq.heap[g]? = some (.cells [Value.string x.inner, .string x.val].toArray 30 (0, 0)) := hK 6 (memE rfl)
        obtain ⟨v1, w5, hrun, k1, k2⟩ := ownk_run (ys := [((x.inner, x.val) : PB)]) (c := 1) encP_len encP_one et30 22 hA (sts_one encP_len rfl e2) hI.bel.size (by omega) (by omega)
        exact ob_run [(12, _), (18, .slice (some ⟨g, 0, none⟩) 1 1)] (wants_none rfl) ⟨rho_in rfl (fv (hK 0 (memE rfl))), rho_in rfl e1, trivial⟩ rfl (run_append_op rfl rfl rfl hrun) ⟨⟨hI.bel.grown k2.grown hI.bel.size (ownk_base hA), by rw [k2.grown.block b4 (mk_lt hI.at_) (Ne.symm HNE.out)]; exact hI.at_⟩, k1⟩
      refine w_lin (FW.of (fun v' W => OwnK encP 2 30 W w.heap.size v' (ps ++ [(x.inner, x.val)])) (fun _ _ _ h hb => ownk_below h hb)) (by decide) (fun vs wq hI hJ hK => ?_) ?_
      · exact ob_copy (.inr rfl) (wants_none rfl) (rho_in rfl rfl) ⟨hI, hK 7 (memE rfl)⟩
      refine w_end rfl rfl rfl (fun vs wq hI hF => ?_)
      simp only [List.reverse_cons, List.reverse_nil, List.nil_append, List.cons_append, finL_val, finL_of, finL_any, finL_app, finL_new, finL_gr, finL_row, finL_box, finL_nil, Act.put, List.setIfInBounds_toArray, List.set_cons_zero, List.set_cons_succ, Nat.reduceAdd]
      have HO7 : Hid (OwnK encP 2 30 wq w.heap.size (vs 8) (ps ++ [(x.inner, x.val)])) := Lib.hid (hF 8 (by decide) rfl)
      have HW7 := Lib.hid hI.bel
      clear hI hF HI0 HJ0
      go_wp2_with fail
      go_roundw
      case rel => exact ⟨k + 1, _, rfl, by omega, by go_num, by rw [HSU.out]; exact HO7, HW7⟩
      case measure => simp [intOf]; omega
    · obtain rfl : k = n := by omega
      have t1 : decide ((k : Int) < (k : Int)) = false := by simp
      rw [List.take_of_length_le (by rw [HLEN.out]; omega)] at HO
      go_wp2_with fail
      go_ret
      exact ⟨_, rfl, HO.out, HW.out⟩
end Go.Proofs.Ytnkeijdpjcclcaa.Pg
