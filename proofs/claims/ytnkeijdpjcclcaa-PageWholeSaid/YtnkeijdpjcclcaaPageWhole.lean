/- The walk of the law PageWhole: every eighth pair is laid whole; a page of more pairs is longer. -/
import Derived.Test.YtnkeijdpjcclcaaPageMakes
import Derived.Test.YtnkeijdpjcclcaaPgW
namespace Go.Proofs.Ytnkeijdpjcclcaa.Pg
set_option linter.unusedVariables false
set_option linter.unusedSimpArgs false
open Go.Proofs.Ytnkeijdpjcclcaa.Kit Go.Proofs.Ytnkeijdpjcclcaa.Num Go.RowKit Go.Proofs.YtnkeijdpjcclcaaW.PrintWords Go.Proofs.YtnkeijdpjcclcaaW.PrintLast Go.Proofs.YtnkeijdpjcclcaaW.PrintMore NumPure
def szW (L k : Nat) : Nat := if k = 0 then 0 else (pageOf (nn (listW L k))).length
theorem szW_lt (L k : Nat) : szW L k < (pageOf (nn (listW L (k + 1)))).length := by
  unfold szW
  split
  · rw [page_length]; omega
  · exact page_grow L k
theorem reg_6_3 : RegOk (opsOf Try.f6 3) [[], [0], [0, 1], [0, 1, 2]] [] [some 19, some 20, some 21, some 0] := regOk (by kernel_rfl)
theorem reg_6_4 : RegOk (opsOf Try.f6 4) [[], [0], [0, 1], [0, 1, 2]] [] [some 22, some 23, some 24, some 1] := regOk (by kernel_rfl)
theorem reg_6_10 : RegOk (opsOf Try.f6 10) [[], [0], [0, 1], [0, 1, 2], [], [4], [4, 5], [4, 5, 6], [0, 1, 2, 3, 4, 5, 6, 7], [0, 1, 2, 3, 4, 5, 6, 7, 8], [0, 1, 2, 3, 4, 5, 6, 7, 8, 9], [0, 1, 2, 3, 4, 5, 6, 7, 8, 9, 10]] [] [some 31, some 32, some 33, some 34, some 35, some 36, some 37, some 38, some 39, some 40, some 41, some 8] := regOk (by kernel_rfl)
theorem reg_6_14 : RegOk (opsOf Try.f6 14) [[], [0], [0, 1]] [] [some 47, some 48, some 8] := regOk (by kernel_rfl)
theorem reg_6_17 : RegOk (opsOf Try.f6 17) [[], [0], [0, 1], [0, 1, 2], [0, 1, 2, 3], [0, 1, 2], [0, 1, 2, 3, 4, 5], [0, 1, 2, 3, 4, 5, 6]] [] [some 59, some 60, some 61, some 62, some 63, some 64, some 65, some 66] := regOk (by kernel_rfl)
theorem reg_6_22 : RegOk (opsOf Try.f6 22) [[], [], [1], [1, 2], [0, 1, 2, 3]] [] [some 81, some 82, some 83, some 84, some 85] := regOk (by kernel_rfl)
theorem reg_6_27 : RegOk (opsOf Try.f6 27) [[], [], [1], [1, 2], [], [4], [1, 2, 3, 4, 5], [], [7], [1, 2, 3, 4, 5, 6, 7, 8], [0, 1, 2, 3, 4, 5, 6, 7, 8, 9], [0, 1, 2, 3, 4, 5, 6, 7, 8, 9, 10], [0, 1, 2, 3, 4, 5, 6, 7, 8, 9, 10, 11], [0, 1, 2, 3, 4, 5, 6, 7, 8, 9, 10, 11, 12], [0, 1, 2, 3, 4, 5, 6, 7, 8, 9, 10, 11, 12, 13]] [] [some 91, some 92, some 93, some 94, some 95, some 96, some 97, some 98, some 99, some 100, some 101, some 102, some 103, some 104, some 16] := regOk (by kernel_rfl)
theorem reg_6_28 : RegOk (opsOf Try.f6 28) [[], [], [0, 1], [0, 1, 2], [0, 1, 2, 3], [0, 1, 2, 3, 4], [0, 1, 2, 3, 4, 5], [0, 1, 2, 3, 4, 5], [0, 1, 2, 3, 4, 5, 7], [0, 1, 2, 3, 4, 5, 6, 7, 8], [0, 1, 2, 3, 4, 5, 6, 7, 8, 9], [0, 1, 2, 3, 4, 5, 6, 7, 8, 9, 10], [0, 1, 2, 3, 4, 5], [0, 1, 2, 3, 4, 5], [0, 1, 2, 3, 4, 5, 13], [0, 1, 2, 3, 4, 5, 12, 13, 14], [0, 1, 2, 3, 4, 5, 12, 13, 14, 15], [0, 1, 2, 3, 4, 5, 12, 13, 14, 15, 16], [0, 1, 2, 3, 4, 5, 12, 13, 14, 15, 16, 17], [0, 1, 2, 3, 4, 5, 6, 7, 8, 9, 10, 11, 12, 13, 14, 15, 16, 17, 18], [0, 1, 2, 3, 4, 5, 6, 7, 8, 9, 10, 11, 12, 13, 14, 15, 16, 17, 18, 19]] [] [some 105, some 106, some 107, some 108, some 109, some 110, some 111, some 112, some 113, some 114, some 115, some 116, some 117, some 118, some 119, some 120, some 121, some 122, some 123, some 124, some 125] := regOk (by kernel_rfl)
set_option maxRecDepth 20000 in
set_option maxHeartbeats 1600000 in
theorem whole_any (n long : Int) (w : World) (_ : (Lit.int .i64 n).wf = true) (_ : (Lit.int .i64 long).wf = true) :
    Calls Try.prog 6 #[.int .i64 n, .int .i64 long] w fun e w' => e = .returned (.bool true) ∧ Below w.heap.size w w' := by
  have C0 := Lib.hid (head_any w)
  obtain ⟨q, hq, hq1⟩ := and63 n
  obtain ⟨r, hr, hr1⟩ := and15 long
  have HQ := Lib.hid hq
  have HR := Lib.hid hr
  clear hq hr
  go_enter Try.func6, Try.ntmps6
  go_wp2_with fail
  refine C0.out.mono ?_
  rintro e w1 ⟨rfl, hb1⟩
  have HB1 := Lib.hid hb1
  clear hb1 C0
  go_upto_region 3 with fail
  refine plain_ (fun wq => Below w1.heap.size w1 wq) (fun _ => True) reg_6_3 rfl inv0 (fun _ _ _ _ => trivial) (Below.refl _ _) trivial ?_
  refine w_move (.inl rfl) (fun vs w hK => ⟨wants_none rfl, rho_out rfl rfl⟩) ?_
  refine w_val [(19, _)] (_) (fun vs w hK => ⟨wants_none rfl, rho_in rfl (fv (hK 0 (memE rfl))), trivial⟩) rfl (fun wq hI => by exact op_and rfl rfl rfl HQ.out) ?_
  refine w_val [(20, _)] (_) (fun vs w hK => ⟨wants_none rfl, rho_in rfl (fv (hK 1 (memE rfl))), trivial⟩) rfl (fun wq hI => by exact run_int_add (c := ((1 + q : Nat) : Int)) rfl rfl rfl (by rw [i64_id (by omega) (by omega)]; omega)) ?_
  refine w_move (.inr rfl) (fun vs w hK => ⟨wants_none rfl, rho_in rfl (fv (hK 2 (memE rfl)))⟩) ?_
  refine w_end rfl rfl rfl (fun vs wq hI hF => ?_)
  simp only [List.reverse_cons, List.reverse_nil, List.nil_append, List.cons_append, finL_val, finL_of, finL_any, finL_app, finL_new, finL_gr, finL_row, finL_box, finL_nil, Act.put, List.setIfInBounds_toArray, List.set_cons_zero, List.set_cons_succ, Nat.reduceAdd]
  have HB2 := Lib.hid (below_then HB1.out HB1.out.size hI)
  clear hI hF HB1 HQ
  obtain ⟨w2, rfl⟩ : ∃ w2 : World, w2 = wq := ⟨_, rfl⟩
  go_upto_region 4 with fail
  refine plain_ (fun wq => Below w2.heap.size w2 wq) (fun _ => True) reg_6_4 rfl inv0 (fun _ _ _ _ => trivial) (Below.refl _ _) trivial ?_
  refine w_move (.inl rfl) (fun vs w hK => ⟨wants_none rfl, rho_out rfl rfl⟩) ?_
  refine w_val [(22, _)] (_) (fun vs w hK => ⟨wants_none rfl, rho_in rfl (fv (hK 0 (memE rfl))), trivial⟩) rfl (fun wq hI => by exact op_and rfl rfl rfl HR.out) ?_
  refine w_val [(23, _)] (_) (fun vs w hK => ⟨wants_none rfl, rho_in rfl (fv (hK 1 (memE rfl))), trivial⟩) rfl (fun wq hI => by exact run_int_add (c := ((1 + r : Nat) : Int)) rfl rfl rfl (by rw [i64_id (by omega) (by omega)]; omega)) ?_
  refine w_move (.inr rfl) (fun vs w hK => ⟨wants_none rfl, rho_in rfl (fv (hK 2 (memE rfl)))⟩) ?_
  refine w_end rfl rfl rfl (fun vs wq hI hF => ?_)
  simp only [List.reverse_cons, List.reverse_nil, List.nil_append, List.cons_append, finL_val, finL_of, finL_any, finL_app, finL_new, finL_gr, finL_row, finL_box, finL_nil, Act.put, List.setIfInBounds_toArray, List.set_cons_zero, List.set_cons_succ, Nat.reduceAdd]
  have HB3 := Lib.hid (below_then HB2.out HB2.out.size hI)
  clear hI hF HB2 HR
  obtain ⟨w3, rfl⟩ : ∃ w3 : World, w3 = wq := ⟨_, rfl⟩
  obtain ⟨N, hN⟩ : ∃ N, 1 + q = N := ⟨_, rfl⟩
  obtain ⟨L, hL⟩ : ∃ L, 1 + r = L := ⟨_, rfl⟩
  rw [hN, hL]
  have hN1 : 1 ≤ N ∧ N ≤ 64 := by omega
  have hL1 : L ≤ 16 := by omega
  clear hN hL hq1 hr1
  have hO : OwnK encP 2 30 (w3.alloc (.cells #[] 30)) w.heap.size (.slice (some ⟨w3.heap.size, 0, none⟩) 0 0) (listW L 0) := World.ownsRow_made w3 #[] 0 HB3.out.size (Nat.zero_le _) rfl
  have HO := Lib.hid hO
  have HB4 : Hid (Below w.heap.size w (w3.alloc (.cells #[] 30))) := Lib.hid (below_alloc HB3.out _)
  clear hO HB3
  go_wp2_with fail
  go_loopw [5, 6, 7] (fun ls sz i wr => ∃ k : Nat, k ≤ N ∧ i = .int .i64 k ∧ sz = .int .i64 (szW L k : Nat) ∧ Hid (OwnK encP 2 30 wr w.heap.size ls (listW L k)) ∧ Hid (Below w.heap.size w wr)) (fun _ _ i _ => N - (intOf i).toNat)
  case atStart => exact ⟨0, by omega, rfl, rfl, HO, HB4⟩
  case round =>
    obtain ⟨k, hk, rfl, rfl, HO, HW⟩ := hrel
    by_cases hlt : k < N
    · have t1 : decide ((k : Int) < (N : Int)) = true := decide_eq_true (by omega)
      have HLT := Lib.hid hlt
      go_upto_region 10 with fail
      refine plain_ (fun wq => Below wr.heap.size wr wq) (fun _ => True) reg_6_10 rfl inv0 (fun _ _ _ _ => trivial) (Below.refl _ _) trivial ?_
      refine w_move (.inl rfl) (fun vs w hK => ⟨wants_none rfl, rho_out rfl rfl⟩) ?_
      refine w_val [(31, _)] (_) (fun vs w hK => ⟨wants_none rfl, rho_in rfl (fv (hK 0 (memE rfl))), trivial⟩) rfl (fun wq hI => by exact op_quo (c := ((k / 26 : Nat) : Int)) rfl rfl rfl (by decide) (by show IntKind.i64.wrap (Int.tdiv (k : Int) ((26 : Nat) : Int)) = _; rw [quo_nat]; exact i64_id (by omega) (by omega))) ?_
      refine w_val [(32, _)] (_) (fun vs w hK => ⟨wants_none rfl, rho_in rfl (fv (hK 1 (memE rfl))), trivial⟩) rfl (fun wq hI => by exact run_int_add (c := ((97 + k / 26 : Nat) : Int)) rfl rfl rfl (by rw [i64_id (by omega) (by omega)]; omega)) ?_
      refine w_val [(33, _)] (_) (fun vs w hK => ⟨wants_none rfl, rho_in rfl (fv (hK 2 (memE rfl))), trivial⟩) rfl (fun wq hI => by exact op_conv_int rfl Try.underlying3 Try.underlying5 rfl (u8_nat (97 + k / 26) (by omega))) ?_
      refine w_move (.inl rfl) (fun vs w hK => ⟨wants_none rfl, rho_out rfl rfl⟩) ?_
      refine w_val [(35, _)] (_) (fun vs w hK => ⟨wants_none rfl, rho_in rfl (fv (hK 4 (memE rfl))), trivial⟩) rfl (fun wq hI => by exact op_rem rfl rfl rfl (by decide) (rem_nat k 26)) ?_
      refine w_val [(36, _)] (_) (fun vs w hK => ⟨wants_none rfl, rho_in rfl (fv (hK 5 (memE rfl))), trivial⟩) rfl (fun wq hI => by exact run_int_add (c := ((97 + k % 26 : Nat) : Int)) rfl rfl rfl (by rw [i64_id (by omega) (by omega)]; omega)) ?_
      refine w_val [(37, _)] (_) (fun vs w hK => ⟨wants_none rfl, rho_in rfl (fv (hK 6 (memE rfl))), trivial⟩) rfl (fun wq hI => by exact op_conv_int rfl Try.underlying3 Try.underlying5 rfl (u8_nat (97 + k % 26) (by omega))) ?_
      refine w_lit (by decide) [(34, _), (38, _)] .u8 [((97 + k / 26 : Nat) : Int), ((97 + k % 26 : Nat) : Int)] _ tb (fun vs w hK => ⟨wants_none rfl, rho_in rfl (fv (hK 3 (memE rfl))), rho_in rfl (fv (hK 7 (memE rfl))), trivial⟩) rfl rfl rfl (by decide) (by decide) rfl ?_
      refine w_str (j := 8) (by decide) Try.underlying9 Try.underlying5 tb rfl rfl (fun vs w hK => wants_none rfl) (fun vs w hK => hK 8 (memE rfl)) ?_
      refine w_val [(40, _)] (_) (fun vs w hK => ⟨wants_none rfl, rho_in rfl (fv (hK 9 (memE rfl))), trivial⟩) rfl (fun wq hI => by exact run_cat_op rfl rfl rfl (by rw [strOf_size]; show 3 + 2 ≤ 9223372036854775807; omega)) ?_
      refine w_move (.inr rfl) (fun vs w hK => ⟨wants_none rfl, rho_in rfl (fv (hK 10 (memE rfl)))⟩) ?_
      refine w_end rfl rfl rfl (fun vs wq hI hF => ?_)
      simp only [List.reverse_cons, List.reverse_nil, List.nil_append, List.cons_append, finL_val, finL_of, finL_any, finL_app, finL_new, finL_gr, finL_row, finL_box, finL_nil, Act.put, List.setIfInBounds_toArray, List.set_cons_zero, List.set_cons_succ, Nat.reduceAdd]
      have HO2 := Lib.hid (ownk_below HO.out hI)
      have HW2 := Lib.hid (below_then HW.out HW.out.size hI)
      clear hI hF HO HW
      obtain ⟨w5, rfl⟩ : ∃ w5 : World, w5 = wq := ⟨_, rfl⟩
      go_wp2_with fail
      go_loopw [8, 9] (fun nm j wr => ∃ s : Nat, s ≤ L ∧ j = .int .i64 s ∧ nm = .string (nameW k s) ∧ Hid (OwnK encP 2 30 wr w.heap.size u5 (listW L k)) ∧ Hid (Below w.heap.size w wr)) (fun _ j _ => L - (intOf j).toNat)
      case atStart => exact ⟨0, by omega, rfl, rfl, HO2, HW2⟩
      case round =>
        obtain ⟨s, hs, rfl, rfl, HO3, HW3⟩ := hrel
        have hsz := nameW_size k s (by omega)
        by_cases hlt2 : s < L
        · have t2 : decide ((s : Int) < (L : Int)) = true := decide_eq_true (by omega)
          go_upto_region 14 with fail
          refine plain_ (fun wq => Below wr.heap.size wr wq) (fun _ => True) reg_6_14 rfl inv0 (fun _ _ _ _ => trivial) (Below.refl _ _) trivial ?_
          refine w_move (.inl rfl) (fun vs w hK => ⟨wants_none rfl, rho_out rfl rfl⟩) ?_
          refine w_val [(47, _)] (.string (nameW k (s + 1))) (fun vs w hK => ⟨wants_none rfl, rho_in rfl (fv (hK 0 (memE rfl))), trivial⟩) rfl (fun wq hI => by exact run_cat_op rfl rfl rfl (by rw [hsz]; show 5 + s + 1 ≤ _; omega)) ?_
          refine w_move (.inr rfl) (fun vs w hK => ⟨wants_none rfl, rho_in rfl (fv (hK 1 (memE rfl)))⟩) ?_
          refine w_end rfl rfl rfl (fun vs wq hI hF => ?_)
          simp only [List.reverse_cons, List.reverse_nil, List.nil_append, List.cons_append, finL_val, finL_of, finL_any, finL_app, finL_new, finL_gr, finL_row, finL_box, finL_nil, Act.put, List.setIfInBounds_toArray, List.set_cons_zero, List.set_cons_succ, Nat.reduceAdd]
          have HO4 := Lib.hid (ownk_below HO3.out hI)
          have HW4 := Lib.hid (below_then HW3.out HW3.out.size hI)
          clear hI hF HO3 HW3
          go_wp2_with fail
          go_roundw
          case rel => exact ⟨s + 1, by omega, by go_num, rfl, HO4, HW4⟩
          case measure => simp [intOf]; omega
        · obtain rfl : s = L := by omega
          have t2 : decide ((s : Int) < (s : Int)) = false := by simp
          have hba : Below wr.heap.size wr (wr.alloc (.cells #[.string (nameW k s), .string ⟨#[118]⟩] 30)) := below_alloc (Below.refl _ _) _
          have HSA : Hid (Sts encP 2 (wr.alloc (.cells #[.string (nameW k s), .string ⟨#[118]⟩] 30)) (some ⟨wr.heap.size, 0, none⟩) 1 [(nameW k s, ⟨#[118]⟩)]) := Lib.hid (sts_one encP_len rfl (heap_alloc_new wr _))
          have HOA := Lib.hid (ownk_below HO3.out hba)
          have HWA := Lib.hid (below_then HW3.out HW3.out.size hba)
          have hll := listW_length s k
          have HSU := Lib.hid (listW_succ s k)
          have HGD := Lib.hid (goodW s (k + 1) (by omega) (by omega))
          have HSZ := Lib.hid (listW_sizes s (k + 1) (by omega) (by omega))
          have HGR := Lib.hid (szW_lt s k)
          have HSE : Hid (szW s (k + 1) = (pageOf (nn (listW s (k + 1)))).length) := Lib.hid (by unfold szW; rw [if_neg (by omega)])
          have HPL : Hid ((pageOf (nn (listW s (k + 1)))).length ≤ 300000) := Lib.hid (by
            have h1 := page_length (nn (listW s (k + 1)))
            have h2 := body_fit HGD.out
            rw [nn_length, listW_length] at h1
            have : cntAt (k + 1) ≤ 100 := by unfold cntAt; omega
            omega)
          generalize hls : listW s k = ls at HOA HSU hll
          generalize nameW k s = nm at HSA HOA HWA HSU hsz ⊢
          clear hba HO3 HW3 HO2 HW2 hls
          go_wp2_with (at_builtin; refine gapp_sts encP_len encP_one et30 rfl (.tmp 49) (.tmp 52) rfl rfl rfl HOA.out HSA.out HWA.out HWA.out.size ?cL ?cM ?_; (case cL => omega); (case cM => omega); intro v1 w6 ho hb1 hs1 hf; have HO6 := Lib.hid ho; have HW6 := Lib.hid hb1; obtain ⟨A6, n6, c6, rfl, h6c, HL6, _, hst6⟩ := ownk_open encP_len ho; have HS6 := Lib.hid hst6; clear ho hb1 hs1 hf hst6)
          rw [← HSU.out] at HO6 HS6 HL6
          have hn6 : n6 = k + 1 := by rw [← HL6.out, listW_length]
          have CM := Lib.hid (make_page A6 n6 c6 (listW s (k + 1)) w6 HS6.out (by rw [listW_length]; exact HGD.out) (fun p hp => by have := HSZ.out p hp; omega))
          clear hn6 HL6 HSU HSA HOA HWA HSZ HS6
          refine CM.out.mono ?_
          rintro e w7 ⟨v7, rfl, hg7, hb7⟩
          obtain ⟨A7, nb, c7, rfl, _, HL7, _, _⟩ := gr_open hg7
          have HO7 := Lib.hid (ownk_below HO6.out hb7)
          have HW7 := Lib.hid (below_then HW6.out HW6.out.size hb7)
          have hnb : (pageOf (nn (listW s (k + 1)))).length = nb := HL7.out
          have hgr := HGR.out
          have hpl := HPL.out
          have hse := HSE.out
          rw [hnb] at hgr hpl hse
          have HSE2 := Lib.hid hse
          generalize hsw : szW s k = sz at hgr ⊢
          clear hg7 hb7 HO6 HW6 CM HGR HPL HSE hnb hse HL7 hsw HGD
          go_upto_region 17 with fail
          refine plain_ (fun wq => Below w7.heap.size w7 wq) (fun _ => True) reg_6_17 rfl inv0 (fun _ _ _ _ => trivial) (Below.refl _ _) trivial ?_
          refine w_move (.inl rfl) (fun vs w hK => ⟨wants_none rfl, rho_out rfl rfl⟩) ?_
          refine w_val [(59, _)] (_) (fun vs w hK => ⟨wants_none rfl, rho_in rfl (fv (hK 0 (memE rfl))), trivial⟩) rfl (fun wq hI => by exact run_int_neq (r := false) rfl rfl rfl rfl) ?_
          refine w_move (.inl rfl) (fun vs w hK => ⟨wants_none rfl, rho_in rfl (fv (hK 1 (memE rfl)))⟩) ?_
          refine w_move (.inl rfl) (fun vs w hK => ⟨wants_g rfl (fv (hK 2 (memE rfl))), rho_out rfl rfl⟩) ?_
          refine w_val [(62, _)] (_) (fun vs w hK => ⟨wants_g rfl (fv (hK 2 (memE rfl))), rho_in rfl (fv (hK 3 (memE rfl))), trivial⟩) rfl (fun wq hI => by exact run_len_sl rfl Try.underlying25 rfl rfl) ?_
          refine w_move (.inl rfl) (fun vs w hK => ⟨wants_g rfl (fv (hK 2 (memE rfl))), rho_out rfl rfl⟩) ?_
          refine w_val [(63, _), (64, _)] (_) (fun vs w hK => ⟨wants_g rfl (fv (hK 2 (memE rfl))), rho_in rfl (fv (hK 4 (memE rfl))), rho_in rfl (fv (hK 5 (memE rfl))), trivial⟩) rfl (fun wq hI => by exact run_int_leq (r := false) rfl rfl rfl (decide_eq_false (by omega))) ?_
          refine w_pick (b := false) rfl (fun vs w hK => ⟨wants_none rfl, (rho_in rfl (fv (hK 2 (memE rfl)))), (rho_in rfl (fv (hK 6 (memE rfl))))⟩) ?_
          refine w_end rfl rfl rfl (fun vs wq hI hF => ?_)
          simp only [List.reverse_cons, List.reverse_nil, List.nil_append, List.cons_append, finL_val, finL_of, finL_any, finL_app, finL_new, finL_gr, finL_row, finL_box, finL_nil, Act.put, List.setIfInBounds_toArray, List.set_cons_zero, List.set_cons_succ, Nat.reduceAdd]
          have HO8 := Lib.hid (ownk_below HO7.out hI)
          have HW8 := Lib.hid (below_then HW7.out HW7.out.size hI)
          clear hI hF HO7 HW7
          go_wp2_with fail
          go_roundw
          case rel => exact ⟨k + 1, by have := HLT.out; omega, by go_num, by rw [HSE2.out], HO8, HW8⟩
          case measure => simp [intOf]; omega
    · obtain rfl : k = N := by omega
      have t1 : decide ((k : Int) < (k : Int)) = false := by simp
      obtain ⟨A6, n6, c6, rfl, h6c, HL6, _, hst6⟩ := ownk_open encP_len HO.out
      have hn6 : k = n6 := by rw [← HL6.out, listW_length]
      subst hn6
      have HS6 := Lib.hid hst6
      have hgd := goodW L k (by omega) (by omega)
      have hgd' : Good (nn (listW L k)) (nn (listW L k)).length := by rw [nn_length, listW_length]; exact hgd
      have CM := Lib.hid (make_page A6 k c6 (listW L k) wr hst6 (by rw [listW_length]; exact hgd) (fun p hp => by have := listW_sizes L k (by omega) (by omega) p hp; omega))
      have HGD := Lib.hid hgd'
      have HBY := Lib.hid (page_byte (nn_byte (listW L k)))
      clear hst6 HO HL6 hlt hgd hgd'
      go_wp2_with fail
      refine CM.out.mono ?_
      rintro e w7 ⟨v7, rfl, hg7, hb7⟩
      obtain ⟨A7, nb, c7, rfl, h7c, HL7, _, hr7⟩ := gr_open hg7
      have HS7 := Lib.hid (sts_below HS6.out hb7)
      have HW7 := Lib.hid (below_then HW.out HW.out.size hb7)
      have HWP := Lib.hid (fun i hi h8 => wholeW L k i (by omega) (by omega) hi h8 _ rfl)
      have hpe := page_end (xs := pageOf (nn (listW L k))) (l := nn (listW L k)) ⟨HGD.out, rfl⟩
      have hpl := page_length (nn (listW L k))
      have hbf := body_fit HGD.out
      have hxl : (pageOf (nn (listW L k))).length = nb := HL7.out
      rw [nn_length, listW_length] at hpe
      have hlv := hpe.2.1
      have hq3 := hpe.2.2.1
      rw [nn_length, listW_length] at hpl hbf
      generalize pageOf (nn (listW L k)) = xs at hr7 HWP hxl HBY hlv hq3 hpl
      have hcq : cntAt k ≤ 100 := by unfold cntAt; omega
      rw [hxl] at hlv hq3 hpl
      have HR7 := Lib.hid hr7
      have HXL := Lib.hid hxl
      have hcd : (k + 7) / 8 = cntAt k := rfl
      have HCD := Lib.hid hcd
      have hk8 : ∀ i, i < cntAt k → 8 * i < k := fun i hi => by unfold cntAt at hi; omega
      have HK8 := Lib.hid hk8
      clear hg7 hb7 hr7 hpe HS6 HW CM HL7 hcd hk8 HGD
      generalize cntAt k = q at hlv hq3 hpl hcq HWP HCD HK8
      have hw4 : IntKind.i64.wrap ((nb : Int) - 4) = ((nb - 4 : Nat) : Int) := by rw [i64_id (by omega) (by omega)]; omega
      obtain ⟨A8, hcut, hC⟩ := cut_from (enc := Value.int .u8) (h1 := int_one .u8) 0 tb A7 nb c7 (nb - 4) 4 (by omega) h7c ((nb - 4 : Nat) : Int) rfl
      have hl4 : (xs.drop (nb - 4)).length = 4 := by rw [List.length_drop, HXL.out]; omega
      have hcl := little_val A8 4 (c7 - (nb - 4)) _ w7 (hC w7 xs HR7.out) hl4 (by omega) (HBY.out.drop (nb - 4))
      rw [List.take_of_length_le (by rw [hl4]; omega), hlv] at hcl
      have CL := Lib.hid hcl
      have hwq : IntKind.i64.wrap (q : Int) = (q : Int) := i64_id (by omega) (by omega)
      have hnb1 : 4 * q + 4 ≤ nb := by omega
      have hnb2 : nb ≤ 300000 := by omega
      clear hcl hlv hC hl4 hxl hpl hbf hq3
      go_wp2_with fail
      refine CL.out.mono ?_
      rintro e w' ⟨rfl, rfl⟩
      clear CL hcut
      go_upto_region 22 with fail
      refine plain_ (fun wq => Below w7.heap.size w7 wq) (fun _ => True) reg_6_22 rfl inv0 (fun _ _ _ _ => trivial) (Below.refl _ _) trivial ?_
      refine w_move (.inl rfl) (fun vs w hK => ⟨wants_none rfl, rho_out rfl rfl⟩) ?_
      refine w_move (.inl rfl) (fun vs w hK => ⟨wants_none rfl, rho_out rfl rfl⟩) ?_
      refine w_val [(82, _)] (_) (fun vs w hK => ⟨wants_none rfl, rho_in rfl (fv (hK 1 (memE rfl))), trivial⟩) rfl (fun wq hI => by exact run_int_add (c := ((k + 7 : Nat) : Int)) rfl rfl rfl (by rw [i64_id (by omega) (by omega)]; omega)) ?_
      refine w_val [(83, _)] (_) (fun vs w hK => ⟨wants_none rfl, rho_in rfl (fv (hK 2 (memE rfl))), trivial⟩) rfl (fun wq hI => by exact op_quo (c := ((q : Nat) : Int)) rfl rfl rfl (by decide) (by show IntKind.i64.wrap (Int.tdiv ((k + 7 : Nat) : Int) ((8 : Nat) : Int)) = _; rw [quo_nat, HCD.out]; exact hwq)) ?_
      refine w_val [(81, _), (84, _)] (_) (fun vs w hK => ⟨wants_none rfl, rho_in rfl (fv (hK 0 (memE rfl))), rho_in rfl (fv (hK 3 (memE rfl))), trivial⟩) rfl (fun wq hI => by exact run_int_neq (r := false) rfl rfl rfl (by simp)) ?_
      refine w_end rfl rfl rfl (fun vs wq hI hF => ?_)
      simp only [List.reverse_cons, List.reverse_nil, List.nil_append, List.cons_append, finL_val, finL_of, finL_any, finL_app, finL_new, finL_gr, finL_row, finL_box, finL_nil, Act.put, List.setIfInBounds_toArray, List.set_cons_zero, List.set_cons_succ, Nat.reduceAdd]
      have HS8 := Lib.hid (sts_below HS7.out hI)
      have HW8 := Lib.hid (below_then HW7.out HW7.out.size hI)
      have HR8 := Lib.hid (rds_below HR7.out hI)
      clear hI hF HS7 HW7 HR7
      obtain ⟨w8, rfl⟩ : ∃ w8 : World, w8 = wq := ⟨_, rfl⟩
      go_wp2_with fail
      go_loopw [15] (fun i wr => ∃ j : Nat, j ≤ q ∧ i = .int .i64 j ∧ Hid (Below w8.heap.size w8 wr)) (fun i _ => q - (intOf i).toNat)
      case atStart => exact ⟨0, by omega, rfl, Lib.hid (Below.refl _ _)⟩
      case round =>
        obtain ⟨j, hj, rfl, HJ⟩ := hrel
        by_cases hlt : j < q
        · have t2 : decide ((j : Int) < (q : Int)) = true := decide_eq_true (by omega)
          have h8j := HK8.out j hlt
          obtain ⟨p1, p2, p3, p4⟩ := HWP.out j hlt h8j
          rw [HXL.out] at p1 p4
          generalize (bodyAt (nn (listW L k)) (8 * j)).length = a at p1 p2 p3 p4
          obtain ⟨A9, hcut9, hC9⟩ := cut_from (enc := Value.int .u8) (h1 := int_one .u8) 0 tb A7 nb c7 (nb - 4 - 4 * q + 4 * j) (nb - (nb - 4 - 4 * q + 4 * j)) (by omega) h7c ((nb - 4 - 4 * q + 4 * j : Nat) : Int) rfl
          obtain ⟨hcut10, hC10⟩ := cut_to (enc := Value.int .u8) (h1 := int_one .u8) 0 tb A9 (nb - (nb - 4 - 4 * q + 4 * j)) (c7 - (nb - 4 - 4 * q + 4 * j)) 4 (by omega) (by omega) 4 rfl
          have hl4 : ((xs.drop (nb - 4 - 4 * q + 4 * j)).take 4).length = 4 := by rw [List.length_take, List.length_drop, HXL.out]; omega
          have HCL := Lib.hid (fun wq (h : Below wr.heap.size wr wq) => pureB (little_val A9 4 (c7 - (nb - 4 - 4 * q + 4 * j)) _ wq (hC10 wq _ (hC9 wq xs (rds_below HR8.out (below_then HJ.out HJ.out.size h)))) hl4 (by omega) ((HBY.out.drop _).take 4)))
          rw [List.take_of_length_le (by rw [hl4]; omega), p1] at HCL
          have HCU9 := Lib.hid hcut9
          have HCU10 := Lib.hid hcut10
          obtain ⟨ad, hAd, hc0⟩ := rds_at 0 (rds_below HR8.out HJ.out) a (by omega)
          obtain ⟨ad', hAd', hc1⟩ := rds_at 0 (rds_below HR8.out HJ.out) (a + 1) (by omega)
          subst hAd
          injection hAd' with hAd'
          subst hAd'
          rw [p2] at hc0
          rw [p3] at hc1
          obtain ⟨ad2, rfl, hcs⟩ := (sts_below HS8.out HJ.out).row (by omega)
          have hnm := hcs (8 * j) (nameW (8 * j) L, ⟨#[118]⟩) (by have := listW_get L k (8 * j) h8j; rw [List.getD_eq_getElem?_getD, List.getElem?_eq_getElem (by rw [listW_length]; exact h8j)] at this; rw [List.getElem?_eq_getElem (by rw [listW_length]; exact h8j)]; exact congrArg some this) 0 _ rfl
          rw [Addr.add_add, Nat.add_zero] at hnm
          have hsz := nameW_size (8 * j) L (by omega)
          generalize nameW (8 * j) L = nm at hnm hsz
          have C0 := Lib.hid hc0
          have C1 := Lib.hid hc1
          have CN := Lib.hid hnm
          clear hcut9 hcut10 hC9 hC10 hl4 p1 p2 p3 hc0 hc1 hcs hnm
          go_upto_region 27 with fail
          refine plain_ (fun wq => Below wr.heap.size wr wq) (fun _ => True) reg_6_27 rfl inv0 (fun _ _ _ _ => trivial) (Below.refl _ _) trivial ?_
          refine w_move (.inl rfl) (fun vs w hK => ⟨wants_none rfl, rho_out rfl rfl⟩) ?_
          refine w_move (.inl rfl) (fun vs w hK => ⟨wants_none rfl, rho_out rfl rfl⟩) ?_
          refine w_val [(92, _)] (_) (fun vs w hK => ⟨wants_none rfl, rho_in rfl (fv (hK 1 (memE rfl))), trivial⟩) rfl (fun wq hI => by exact run_len_sl rfl Try.underlying25 rfl rfl) ?_
          refine w_val [(93, _)] (_) (fun vs w hK => ⟨wants_none rfl, rho_in rfl (fv (hK 2 (memE rfl))), trivial⟩) rfl (fun wq hI => by exact run_int_sub (c := ((nb - 4 : Nat) : Int)) rfl rfl rfl hw4) ?_
          refine w_move (.inl rfl) (fun vs w hK => ⟨wants_none rfl, rho_out rfl rfl⟩) ?_
          refine w_val [(95, _)] (_) (fun vs w hK => ⟨wants_none rfl, rho_in rfl (fv (hK 4 (memE rfl))), trivial⟩) rfl (fun wq hI => by exact op_mul (c := ((4 * q : Nat) : Int)) rfl rfl rfl (by rw [i64_id (by omega) (by omega)]; omega)) ?_
          refine w_val [(94, _), (96, _)] (_) (fun vs w hK => ⟨wants_none rfl, rho_in rfl (fv (hK 3 (memE rfl))), rho_in rfl (fv (hK 5 (memE rfl))), trivial⟩) rfl (fun wq hI => by exact run_int_sub (c := ((nb - 4 - 4 * q : Nat) : Int)) rfl rfl rfl (by rw [i64_id (by omega) (by omega)]; omega)) ?_
          refine w_move (.inl rfl) (fun vs w hK => ⟨wants_none rfl, rho_out rfl rfl⟩) ?_
          refine w_val [(98, _)] (_) (fun vs w hK => ⟨wants_none rfl, rho_in rfl (fv (hK 7 (memE rfl))), trivial⟩) rfl (fun wq hI => by exact op_mul (c := ((4 * j : Nat) : Int)) rfl rfl rfl (by rw [i64_id (by omega) (by omega)]; omega)) ?_
          refine w_val [(97, _), (99, _)] (_) (fun vs w hK => ⟨wants_none rfl, rho_in rfl (fv (hK 6 (memE rfl))), rho_in rfl (fv (hK 8 (memE rfl))), trivial⟩) rfl (fun wq hI => by exact run_int_add (c := ((nb - 4 - 4 * q + 4 * j : Nat) : Int)) rfl rfl rfl (by rw [i64_id (by omega) (by omega)]; omega)) ?_
          refine w_val [(91, _), (100, _)] (_) (fun vs w hK => ⟨wants_none rfl, rho_in rfl (fv (hK 0 (memE rfl))), rho_in rfl (fv (hK 9 (memE rfl))), trivial⟩) rfl (fun wq hI => by exact run_slice_op rfl rfl (HCU9.out wq)) ?_
          refine w_val [(101, _)] (_) (fun vs w hK => ⟨wants_none rfl, rho_in rfl (fv (hK 10 (memE rfl))), trivial⟩) rfl (fun wq hI => by exact run_slice_op rfl rfl (HCU10.out wq)) ?_
          refine w_call [(102, _)] _ _ (by decide) (fun vs w hK => ⟨wants_none rfl, rho_in rfl (fv (hK 11 (memE rfl))), trivial⟩) rfl rfl Try.func22 (by kernel_rfl) rfl (fun wq hI => HCL.out wq hI) (margs rfl) ?_
          refine w_val [(103, _)] (_) (fun vs w hK => ⟨wants_none rfl, rho_in rfl (fv (hK 12 (memE rfl))), trivial⟩) rfl (fun wq hI => by exact op_conv_int rfl Try.underlying32 Try.underlying3 rfl (i64_id (x := (a : Int)) (by omega) (by omega))) ?_
          refine w_move (.inr rfl) (fun vs w hK => ⟨wants_none rfl, rho_in rfl (fv (hK 13 (memE rfl)))⟩) ?_
          refine w_end rfl rfl rfl (fun vs wq hI hF => ?_)
          simp only [List.reverse_cons, List.reverse_nil, List.nil_append, List.cons_append, finL_val, finL_of, finL_any, finL_app, finL_new, finL_gr, finL_row, finL_box, finL_nil, Act.put, List.setIfInBounds_toArray, List.set_cons_zero, List.set_cons_succ, Nat.reduceAdd]
          have C0' := Lib.hid (below_cell hI C0.out)
          have C1' := Lib.hid (below_cell hI C1.out)
          have CN' := Lib.hid (below_cell hI CN.out)
          have HJ2 := Lib.hid (below_then HJ.out HJ.out.size hI)
          clear hI hF C0 C1 CN HCL HCU9 HCU10 HJ
          obtain ⟨w9, rfl⟩ : ∃ w9 : World, w9 = wq := ⟨_, rfl⟩
          go_upto_region 28 with fail
          refine draws_ (fun wq => Below w9.heap.size w9 wq) (fun _ => True) (by kernel_rfl) reg_6_28 rfl inv0 (fun _ _ _ _ => trivial) (below_drew (Below.refl _ _)) trivial ?_
          refine w_move (.inl rfl) (fun vs w hK => ⟨wants_none rfl, rho_out rfl rfl⟩) ?_
          refine w_move (.inl rfl) (fun vs w hK => ⟨wants_none rfl, rho_out rfl rfl⟩) ?_
          refine w_val [(105, _), (106, _)] (_) (fun vs w hK => ⟨wants_none rfl, rho_in rfl (fv (hK 0 (memE rfl))), rho_in rfl (fv (hK 1 (memE rfl))), trivial⟩) rfl (fun wq hI => by exact run_index_cell tb rfl rfl rfl rfl (by omega)) ?_
          refine w_val [(107, _)] (_) (fun vs w hK => ⟨wants_none rfl, rho_in rfl (fv (hK 2 (memE rfl))), trivial⟩) rfl (fun wq hI => by exact run_load_cell (v := .int .u8 0) rfl rfl rfl Try.underlying5 rfl (below_cell hI C0'.out)) ?_
          refine w_val [(108, _)] (_) (fun vs w hK => ⟨wants_none rfl, rho_in rfl (fv (hK 3 (memE rfl))), trivial⟩) rfl (fun wq hI => by exact run_int_neq (r := false) rfl rfl rfl rfl) ?_
          refine w_move (.inl rfl) (fun vs w hK => ⟨wants_none rfl, rho_in rfl (fv (hK 4 (memE rfl)))⟩) ?_
          refine w_move (.inl rfl) (fun vs w hK => ⟨wants_g rfl (fv (hK 5 (memE rfl))), rho_out rfl rfl⟩) ?_
          refine w_move (.inl rfl) (fun vs w hK => ⟨wants_g rfl (fv (hK 5 (memE rfl))), rho_out rfl rfl⟩) ?_
          refine w_val [(112, _)] (_) (fun vs w hK => ⟨wants_g rfl (fv (hK 5 (memE rfl))), rho_in rfl (fv (hK 7 (memE rfl))), trivial⟩) rfl (fun wq hI => by exact run_int_add (c := ((a + 1 : Nat) : Int)) rfl rfl rfl (by rw [i64_id (by omega) (by omega)]; omega)) ?_
          refine w_val [(111, _), (113, _)] (_) (fun vs w hK => ⟨wants_g rfl (fv (hK 5 (memE rfl))), rho_in rfl (fv (hK 6 (memE rfl))), rho_in rfl (fv (hK 8 (memE rfl))), trivial⟩) rfl (fun wq hI => by exact run_index_cell tb rfl rfl rfl rfl (by omega)) ?_
          refine w_val [(114, _)] (_) (fun vs w hK => ⟨wants_g rfl (fv (hK 5 (memE rfl))), rho_in rfl (fv (hK 9 (memE rfl))), trivial⟩) rfl (fun wq hI => by exact run_load_cell (v := .int .u8 ((5 + L : Nat) : Int)) rfl rfl rfl Try.underlying5 rfl (below_cell hI C1'.out)) ?_
          refine w_val [(115, _)] (_) (fun vs w hK => ⟨wants_g rfl (fv (hK 5 (memE rfl))), rho_in rfl (fv (hK 10 (memE rfl))), trivial⟩) rfl (fun wq hI => by exact op_conv_int rfl Try.underlying5 Try.underlying3 rfl (i64_id (x := ((5 + L : Nat) : Int)) (by omega) (by omega))) ?_
          refine w_move (.inl rfl) (fun vs w hK => ⟨wants_g rfl (fv (hK 5 (memE rfl))), rho_out rfl rfl⟩) ?_
          refine w_move (.inl rfl) (fun vs w hK => ⟨wants_g rfl (fv (hK 5 (memE rfl))), rho_out rfl rfl⟩) ?_
          refine w_val [(118, _)] (_) (fun vs w hK => ⟨wants_g rfl (fv (hK 5 (memE rfl))), rho_in rfl (fv (hK 13 (memE rfl))), trivial⟩) rfl (fun wq hI => by exact op_mul (c := ((8 * j : Nat) : Int)) rfl rfl rfl (by rw [i64_id (by omega) (by omega)]; omega)) ?_
          refine w_val [(117, _), (119, _)] (_) (fun vs w hK => ⟨wants_g rfl (fv (hK 5 (memE rfl))), rho_in rfl (fv (hK 12 (memE rfl))), rho_in rfl (fv (hK 14 (memE rfl))), trivial⟩) rfl (fun wq hI => by exact op_index_st sts22 rfl rfl rfl rfl h8j) ?_
          refine w_val [(120, _)] _ (fun vs w hK => ⟨wants_g rfl (fv (hK 5 (memE rfl))), rho_in rfl (fv (hK 15 (memE rfl))), trivial⟩) rfl (fun wq hI => by simp only [execOp, Option.map_some, Option.map_none, lk_tmp, lk_const, lkT_cons, ↓reduceIte, Nat.reduceEqDiff]; go_simp; (first | done | rfl)) ?_
          refine w_val [(121, _)] (_) (fun vs w hK => ⟨wants_g rfl (fv (hK 5 (memE rfl))), rho_in rfl (fv (hK 16 (memE rfl))), trivial⟩) rfl (fun wq hI => by exact run_load_cell (v := .string nm) rfl rfl rfl Try.underlying9 rfl (below_cell hI CN'.out)) ?_
          refine w_val [(122, _)] (_) (fun vs w hK => ⟨wants_g rfl (fv (hK 5 (memE rfl))), rho_in rfl (fv (hK 17 (memE rfl))), trivial⟩) rfl (fun wq hI => by exact run_len_str (n := ((5 + L : Nat) : Int)) rfl Try.underlying9 rfl (by rw [hsz])) ?_
          refine w_val [(116, _), (123, _)] (_) (fun vs w hK => ⟨wants_g rfl (fv (hK 5 (memE rfl))), rho_in rfl (fv (hK 11 (memE rfl))), rho_in rfl (fv (hK 18 (memE rfl))), trivial⟩) rfl (fun wq hI => by exact run_int_neq (r := false) rfl rfl rfl (by simp)) ?_
          refine w_pick (b := false) rfl (fun vs w hK => ⟨wants_none rfl, (rho_in rfl (fv (hK 5 (memE rfl)))), (rho_in rfl (fv (hK 19 (memE rfl))))⟩) ?_
          refine w_end rfl rfl rfl (fun vs wq hI hF => ?_)
          simp only [List.reverse_cons, List.reverse_nil, List.nil_append, List.cons_append, finL_val, finL_of, finL_any, finL_app, finL_new, finL_gr, finL_row, finL_box, finL_nil, Act.put, List.setIfInBounds_toArray, List.set_cons_zero, List.set_cons_succ, Nat.reduceAdd]
          have HJ3 := Lib.hid (below_then HJ2.out HJ2.out.size hI)
          clear hI hF
          go_wp2_with fail
          go_roundw
          case rel => exact ⟨j + 1, by omega, by go_num, HJ3⟩
          case measure => simp [intOf]; omega
        · obtain rfl : j = q := by omega
          have t2 : decide ((j : Int) < (j : Int)) = false := by simp
          have HF := Lib.hid (below_then HW8.out HW8.out.size HJ.out)
          go_wp2_with fail
          go_ret
          exact ⟨rfl, HF.out⟩
end Go.Proofs.Ytnkeijdpjcclcaa.Pg

