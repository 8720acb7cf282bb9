/- The walk of the law PageParses: whatever bytes: the page that they are, or that they are none; what is read is made just so. -/
import Derived.Test.YtnkeijdpjcclcaaPgG
import Derived.Test.YtnkeijdpjcclcaaGr2
namespace Go.Proofs.Ytnkeijdpjcclcaa.Pg
set_option linter.unusedVariables false
set_option linter.unusedSimpArgs false
open Go.Proofs.Ytnkeijdpjcclcaa.Kit Go.Proofs.Ytnkeijdpjcclcaa.Num Go.RowKit Go.Proofs.YtnkeijdpjcclcaaW.PrintWords Go.Proofs.YtnkeijdpjcclcaaW.PrintLast Go.Proofs.YtnkeijdpjcclcaaW.PrintMore NumPure
/-- What a page is of is short. -/
theorem page_sizes {ps : List PB} (hg : Good (nn ps) ps.length) : ∀ p ∈ ps, p.1.size ≤ 1000000 ∧ p.2.size ≤ 1000000 := by
  intro p hp
  obtain ⟨k, hk, he⟩ := List.getElem_of_mem hp
  have hgd : ps.getD k default = p := by rw [List.getD_eq_getElem?_getD, List.getElem?_eq_getElem hk, he]; rfl
  have h1 := nm_nn ps k
  have h2 := vl_nn ps k
  rw [hgd] at h1 h2
  have h3 := name_body (nn ps) (k + 1)
  have h4 := (hg k hk).2
  unfold Fit at h4
  have h5 : lastAt (nn ps) (k + 1) = nmAt (nn ps) k := by simp [lastAt]
  have h6 := row_length (sameAt (nn ps) k) (nmAt (nn ps) k) (vlAt (nn ps) k)
  have h7 : (bodyAt (nn ps) (k + 1)).length = (bodyAt (nn ps) k).length + (rowOf (sameAt (nn ps) k) (nmAt (nn ps) k) (vlAt (nn ps) k)).length := by simp [bodyAt]
  have h8 : (vlAt (nn ps) k).length = p.2.size := by rw [h2, numsOf_length]
  have h9 : (nmAt (nn ps) k).length = p.1.size := by rw [h1, numsOf_length]
  rw [h5] at h3
  omega
/-- What Parse tells, both ways in one. -/
def ParseGen (xs : List Int) (w : World) (e : Ending) (w' : World) : Prop := Below w.heap.size w w' ∧ ∃ (bv wv : Value) (ex : Nat) (ps : List PB), e = .returned (.tuple #[.agg #[bv, wv], .int .i64 ex]) ∧ Good (nn ps) ps.length ∧ Gr .u8 5 w' w.heap.size bv (bodyAt (nn ps) ps.length) ∧ Gr .i64 3 w' w.heap.size wv (places (nn ps) ps.length) ∧
  ((ex = 0 ∧ IsPage xs (nn ps)) ∨ (ex = 2 ∧ ps = [] ∧ ∀ l, ¬ IsPage xs l))
theorem parse_gen (A : Option Addr) (n c : Nat) (xs : List Int) (w : World) (hr : Rds .u8 w A n xs) (hb : Byte xs) (hnc : n ≤ c) (hn : n ≤ 1000000) :
    Calls Try.prog 19 #[.slice A n c] w (ParseGen xs w) := by
  refine (parse_any A n c xs w hr hb hnc hn).mono ?_
  rintro e w' ⟨hb, bv, wv, ex, rfl, hp⟩
  rcases hp with ⟨rfl, ps, hip, h1, h2⟩ | ⟨rfl, rfl, rfl, hno⟩
  · exact ⟨hb, bv, wv, 0, ps, rfl, by have := hip.1; rwa [nn_length] at this, h1, h2, .inl ⟨rfl, hip⟩⟩
  · exact ⟨hb, _, _, 2, [], rfl, fun j hj => absurd hj (by simp), gr_nil _ _ _, gr_nil _ _ _, .inr ⟨rfl, rfl, hno⟩⟩
theorem reg_4_16 : RegOk (opsOf Try.f4 16) [[], [0], [0, 1], [0, 1, 2], [0, 1, 2, 3], [0, 1, 2], [0, 1, 2, 5], [0, 1, 2, 3, 4, 5, 6], [0, 1, 2, 3, 4, 5, 6, 7], [0, 1, 2, 3, 4, 5, 6, 7, 8]] [] [some 51, some 52, some 53, some 54, some 55, some 56, some 57, some 58, some 59, some 2] := regOk (by kernel_rfl)
set_option maxRecDepth 20000 in
set_option maxHeartbeats 3200000 in
theorem parses_any (A : Option Addr) (n c : Nat) (l : List Int) (w : World) (hr : Rds .u8 w A n l) (hl : l.length = n) (hm : n * 1 ≤ 140737488351232) (hw : ∀ x ∈ l, (Lit.int .u8 x).wf = true) (hc : n ≤ c) :
    Calls Try.prog 4 #[.slice A n c] w fun e w' => e = .returned (.bool true) ∧ Below w.heap.size w w' := by
  have HBY := Lib.hid (byte_wf hw)
  have HR := Lib.hid hr
  have HL := Lib.hid hl
  have C0 := Lib.hid (head_any w)
  clear hr hw hl
  go_enter Try.func4, Try.ntmps4
  go_wp2_with fail
  refine C0.out.mono ?_
  rintro e w1 ⟨rfl, hb1⟩
  have HB1 := Lib.hid hb1
  clear hb1 C0
  by_cases hbig : 1000 < n
  · have t0 : decide ((1000 : Int) < (n : Int)) = true := decide_eq_true (by omega)
    clear hbig
    go_wp2_with fail
    go_ret
    exact ⟨rfl, HB1.out⟩
  · have t0 : decide ((1000 : Int) < (n : Int)) = false := decide_eq_false (by omega)
    have hO := own_lit_ .u8 5 w1 w1.heap.size [] 0 rfl (Nat.le_refl _) (by simp)
    have hb2 := below_alloc (Below.refl w1.heap.size w1) (.cells (nums .u8 []).toArray 5)
    have HO : Hid (Gr .u8 5 (w1.alloc (.cells #[] 5)) w1.heap.size (.slice (some ⟨w1.heap.size, 0, none⟩) 0 0) []) := Lib.hid (.inl hO)
    have HB : Hid (Below w1.heap.size w1 (w1.alloc (.cells #[] 5))) := Lib.hid hb2
    have HR1 := Lib.hid (rds_below (rds_below HR.out HB1.out) HB.out)
    clear hO hb2
    go_wp2_with (at_builtin; refine gapp_row (h1 := int_one .u8) tb rfl (.tmp 15) (.tmp 16) rfl rfl rfl HO.out HR1.out HB.out HB.out.size ?cL ?_; (case cL => simp; omega); intro v4 w4 ho hb3 hs1 hf; obtain ⟨A4, n4, c4, rfl, h4c, HL4, _, hr4⟩ := gr_open ho; have HO4 := Lib.hid ho; have HB4 := Lib.hid hb3; have HR4 := Lib.hid hr4; clear ho hb3 hs1 hf hr4)
    rw [List.nil_append] at HO4 HR4 HL4
    obtain rfl : n4 = n := by rw [← HL4.out]; exact HL.out
    have HW4 := Lib.hid (below_then HB1.out HB1.out.size HB4.out)
    have C2 := Lib.hid (parse_gen A4 n4 c4 l w4 HR4.out HBY.out h4c (by omega))
    have hbw : w.heap.size ≤ w1.heap.size := HB1.out.size
    clear HR1 HR4 HB HO HB1 HB4 HL4
    refine C2.out.mono ?_
    rintro e w5 ⟨hb5, bv, wv, ex, ps, rfl, hgd, hbv, hwv, hcase⟩
    obtain ⟨Ab, nb, cb, rfl, _⟩ := gr_open hbv
    obtain ⟨Aw, nw, cw, rfl, _⟩ := gr_open hwv
    have HGD := Lib.hid hgd
    have HBV := Lib.hid hbv
    have HWV := Lib.hid hwv
    have HCA := Lib.hid hcase
    have HGL : Hid (∀ j, (Value.slice A4 n4 c4).ownBlock = some j → j < w4.heap.size) := Lib.hid (fun j hj => gr_lt HO4.out j hj)
    have HO5 := Lib.hid (gr_below HO4.out hb5)
    have HW5 := Lib.hid (below_then HW4.out HW4.out.size hb5)
    have h45 : w4.heap.size ≤ w5.heap.size := hb5.size
    clear hb5 hgd hbv hwv hcase HO4 HW4 C2
    go_upto_region 7 with (first | (refine wpList_store_box rfl 36 (.tmp 4) (.tmp 21) rfl w5.heap.size [.slice Ab nb cb, .slice Aw nw cw] rfl rfl (heap_alloc_new w5 _) rfl info36 rfl ?_; intro w6 hs6; have HS6 := Lib.hid hs6; clear hs6) | fail)
    have hb6 : Below w5.heap.size w5 w6 := HS6.out.then_ (below_alloc (Below.refl _ _) _) (Nat.le_refl _)
    have HX6 := Lib.hid HS6.out.at_
    have HBV6 := Lib.hid (gr_below HBV.out hb6)
    have HWV6 := Lib.hid (gr_below HWV.out hb6)
    have HO6 := Lib.hid (gr_below HO5.out hb6)
    have HW6 := Lib.hid (below_then HW5.out HW5.out.size hb6)
    clear hb6 HS6 HBV HWV HO5 HW5
    generalize w5.heap.size = b6 at HX6 h45 ⊢
    go_wp2_with fail
    go_loopw [25] (fun i wr => ∃ (k : Nat) (ys : List Int), k ≤ n4 ∧ i = .int .i64 k ∧ Hid (ys.length = n4) ∧ Hid (Gr .u8 5 wr w1.heap.size (.slice A4 n4 c4) ys) ∧ Hid (wr.heap[b6]? = some (.cells [Value.slice Ab nb cb, .slice Aw nw cw].toArray 36 (0, 0))) ∧ Hid (Gr .u8 5 wr w4.heap.size (.slice Ab nb cb) (bodyAt (nn ps) ps.length)) ∧ Hid (Gr .i64 3 wr w4.heap.size (.slice Aw nw cw) (places (nn ps) ps.length)) ∧ Hid (Below w.heap.size w wr)) (fun i _ => n4 - (intOf i).toNat)
    case atStart => exact ⟨0, l, by omega, rfl, HL, HO6, HX6, HBV6, HWV6, HW6⟩
    case round =>
      obtain ⟨k, ys, hk, rfl, HYL, HO, HX, HBV, HWV, HW⟩ := hrel
      by_cases hlt : k < n4
      · have t1 : decide ((k : Int) < (n4 : Int)) = true := decide_eq_true (by omega)
        obtain ⟨g, n', cap, hv, HLg, hpos, _, _, hgb, hgl⟩ := gr_form HO.out (by rw [HYL.out]; omega)
        injection hv with e1 e2 e3
        subst e1 e2 e3
        have hcell := gr_cell 0 HO.out k hlt
        obtain ⟨hcl, hfr⟩ := hcell
        have hg4 : g < w4.heap.size := HGL.out g rfl
        generalize ys.getD k 0 = y at hcl
        go_wp2_with fail
        go_roundw
        case rel => exact ⟨k + 1, ys.set k _, by omega, by go_num, Lib.hid (by rw [List.length_set]; exact HYL.out), Lib.hid (gr_set HO.out k _), Lib.hid (by rw [Below.heap_setCell _ _ _ _ (by show b6 ≠ g; omega)]; exact HX.out), Lib.hid (gr_move HBV.out fun j hj => Below.heap_setCell _ _ _ _ (by have := gr_base HBV.out j hj; show j ≠ g; omega)), Lib.hid (gr_move HWV.out fun j hj => Below.heap_setCell _ _ _ _ (by have := gr_base HWV.out j hj; show j ≠ g; omega)), Lib.hid (HW.out.setCell (p := ⟨g, k, none⟩) (by show w.heap.size ≤ g; omega) _)⟩
        case measure => simp [intOf]; omega
      · obtain rfl : k = n4 := by omega
        have t1 : decide ((k : Int) < (k : Int)) = false := by simp
        have C3 := Lib.hid (all_page (.slice Ab nb cb) (.slice Aw nw cw) ps wr w4.heap.size HGD.out HBV.out HWV.out)
        clear HO6 HX6 HBV6 HWV6 HW6 HBV HWV HO HYL HGL
        go_wp2_with (first | (refine wpList_load_box rfl 36 (.tmp 4) rfl b6 [.slice Ab nb cb, .slice Aw nw cw] rfl HX.out Try.underlying36 rfl info36 ?_) | fail)
        refine C3.out.mono ?_
        rintro e w7 ⟨pv, rfl, ho7, hb7⟩
        obtain ⟨Ap, np, cp, rfl, hpc, HLp, hpm, hsts⟩ := ownk_open encP_len ho7
        have HW7 := Lib.hid (below_then HW.out HW.out.size hb7)
        have HST := Lib.hid hsts
        clear ho7 hb7 hsts C3 HW HX
        rcases HCA.out with ⟨rfl, hip⟩ | ⟨rfl, rfl, hno⟩
        · have HIP := Lib.hid hip
          have C4 := Lib.hid (make_page Ap np cp ps w7 HST.out HGD.out (page_sizes HGD.out))
          clear hip HCA HST
          go_wp2_with fail
          refine C4.out.mono ?_
          rintro e w8 ⟨cv, rfl, hg8, hb8⟩
          obtain ⟨Ac, nc, cc, rfl, _, _, _, hrc⟩ := gr_open hg8
          have HRC := Lib.hid hrc
          have HW8 := Lib.hid (below_then HW7.out HW7.out.size hb8)
          have HPE := Lib.hid HIP.out.2
          clear hg8 hb8 hrc C4 HIP HW7
          go_upto_region 16 with fail
          refine plain_ (fun wq => Below w8.heap.size w8 wq) (fun _ => True) reg_4_16 rfl inv0 (fun _ _ _ _ => trivial) (Below.refl _ _) trivial ?_
          refine w_move (.inl rfl) (fun vs w hK => ⟨wants_none rfl, rho_out rfl rfl⟩) ?_
          refine w_val [(51, _)] (_) (fun vs w hK => ⟨wants_none rfl, rho_in rfl (fv (hK 0 (memE rfl))), trivial⟩) rfl (fun wq hI => by exact run_int_eql (r := true) rfl rfl rfl rfl) ?_
          refine w_move (.inl rfl) (fun vs w hK => ⟨wants_none rfl, rho_in rfl (fv (hK 1 (memE rfl)))⟩) ?_
          refine w_move (.inl rfl) (fun vs w hK => ⟨wants_g rfl (fv (hK 2 (memE rfl))), rho_out rfl rfl⟩) ?_
          refine w_val [(54, _)] (_) (fun vs w hK => ⟨wants_g rfl (fv (hK 2 (memE rfl))), rho_in rfl (fv (hK 3 (memE rfl))), trivial⟩) rfl (fun wq hI => by exact run_conv_op rfl rfl (conv_rds (dst := 9) tb Try.underlying5 Try.underlying9 (rds_below HRC.out hI))) ?_
          refine w_move (.inl rfl) (fun vs w hK => ⟨wants_g rfl (fv (hK 2 (memE rfl))), rho_out rfl rfl⟩) ?_
          refine w_val [(56, _)] (_) (fun vs w hK => ⟨wants_g rfl (fv (hK 2 (memE rfl))), rho_in rfl (fv (hK 5 (memE rfl))), trivial⟩) rfl (fun wq hI => by exact run_conv_op rfl rfl (conv_rds (dst := 9) tb Try.underlying5 Try.underlying9 (rds_below HR.out (below_then HW8.out HW8.out.size hI)))) ?_
          refine w_val [(55, _), (57, _)] (_) (fun vs w hK => ⟨wants_g rfl (fv (hK 2 (memE rfl))), rho_in rfl (fv (hK 4 (memE rfl))), rho_in rfl (fv (hK 6 (memE rfl))), trivial⟩) rfl (fun wq hI => by exact run_eql_same rfl rfl rfl (by rw [HPE.out])) ?_
          refine w_pick (b := true) rfl (fun vs w hK => ⟨wants_none rfl, (rho_in rfl (fv (hK 2 (memE rfl)))), (rho_in rfl (fv (hK 7 (memE rfl))))⟩) ?_
          refine w_move (.inr rfl) (fun vs w hK => ⟨wants_none rfl, rho_in rfl (fv (hK 8 (memE rfl)))⟩) ?_
          refine w_end rfl rfl rfl (fun vs wq hI hF => ?_)
          simp only [List.reverse_cons, List.reverse_nil, List.nil_append, List.cons_append, finL_val, finL_of, finL_any, finL_app, finL_new, finL_gr, finL_row, finL_box, finL_nil, Act.put, List.setIfInBounds_toArray, List.set_cons_zero, List.set_cons_succ, Nat.reduceAdd]
          have HW9 := Lib.hid (below_then HW8.out HW8.out.size hI)
          clear hI hF
          go_wp2_with fail
          go_ret
          exact ⟨rfl, HW9.out⟩
        · obtain rfl : np = 0 := HLp.out.symm
          clear hno HCA HST HLp
          go_wp2_with fail
          go_ret
          exact ⟨rfl, HW7.out⟩
end Go.Proofs.Ytnkeijdpjcclcaa.Pg

