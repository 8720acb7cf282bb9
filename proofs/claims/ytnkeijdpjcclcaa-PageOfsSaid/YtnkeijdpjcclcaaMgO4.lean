/- Merged of: PageOfs RowPageOfs -/
import Derived.Test.YtnkeijdpjcclcaaMgO3
import Derived.Test.YtnkeijdpjcclcaaRows
import Derived.WalkKit
import Derived.ProofKit
import Derived.OpenShut
import Derived.ShutString
import Derived.ChangeOld
import Derived.Below
import Derived.SizedLaws
import Derived.Test.YtnkeijdpjcclcaaWSized
-- PageOfs
/- The walk of the law PageOfs: changes as pairs: in order, if the changes are; read back they are they. -/
namespace Go.Proofs.Ytnkeijdpjcclcaa.Pg
set_option linter.unusedVariables false
set_option linter.unusedSimpArgs false
open Go.Proofs.Ytnkeijdpjcclcaa.Kit Go.Proofs.Ytnkeijdpjcclcaa.Num Go.RowKit Go.Proofs.YtnkeijdpjcclcaaW.PrintWords Go.Proofs.YtnkeijdpjcclcaaW.PrintLast Go.Proofs.YtnkeijdpjcclcaaW.PrintMore NumPure Key
theorem info9 : (Try.prog.info? 9).map (·.size) = some 1 := by kernel_rfl
theorem inL_byte (x : Ent) : Byte x.inL := by
  unfold Ent.inL
  refine Byte.append (Byte.append (fun c hc => ?_) (fun c hc => ?_)) (be_byte _ _)
  · unfold esc at hc
    rw [List.mem_flatMap] at hc
    obtain ⟨d, hd, hc⟩ := hc
    have := numsOf_byte x.key d hd
    split at hc <;> simp at hc <;> omega
  · simp at hc
    omega
theorem bare_set (x : Ent) : x.bare.cells.set 3 (.string x.val) = x.cells := rfl
theorem ent_load {x : Ent} {w : World} {ad : Addr} {o : Oper} {l : List (Nat × Value)} {y : Operand} (ho : o.op = .load 61 y) (hy : lk l y = .pointer (some ad)) (hc : ∀ j v, x.cells[j]? = some v → w.cell? (ad.add j) = some v) : (execOp (lk l) o).run Try.prog w = .ok (.value x.ag) w :=
  op_load_at ho ad x.cells hy hc Try.underlying61 rfl info61
theorem reg_9_8 : RegOk (opsOf Try.f9 8) [[], [0], [0, 1], [0, 1, 2], [0, 1, 2, 3], [0, 1, 2, 3, 4], [0, 1, 2, 3, 4, 5], [0, 1, 2, 3, 4, 5, 6], [0, 1, 2, 3, 4, 5, 6, 7], [0, 1, 2, 3, 4, 5, 6, 7, 8], [0, 1, 2, 3, 4, 5, 6, 7, 8, 9], [0, 1, 2, 3, 4, 5, 6, 7, 8, 9, 10], [0, 1, 2, 3, 4, 5, 6, 7, 8, 9, 10, 11], [0, 1, 2, 3, 4, 5, 6, 7, 8, 9, 10, 11, 12], [0, 1, 2, 3, 4, 5, 6, 7, 8, 9, 10, 11, 12], [0, 1, 2, 3, 4, 5, 6, 7, 8, 9, 10, 11, 12, 14], [0, 1, 2, 3, 4, 5, 6, 7, 8, 9, 10, 11, 12, 13, 14, 15], [0, 1, 2, 3, 4, 5, 6, 7, 8, 9, 10, 11, 12, 13, 14, 15, 16], [0, 1, 2, 3, 4, 5, 6, 7, 8, 9, 10, 11, 12], [0, 1, 2, 3, 4, 5, 6, 7, 8, 9, 10, 11, 12, 13, 14, 15, 16, 17, 18], [0, 1, 2, 3, 4, 5, 6, 7, 8, 9, 10, 11, 12, 13, 14, 15, 16, 17, 18, 19], [0, 1, 2, 3, 4, 5, 6, 7, 8, 9, 10, 11, 12, 13, 14, 15, 16, 17, 18, 19, 20], [0, 1, 2, 3, 4, 5, 6, 7, 8, 9, 10, 11, 12, 13, 14, 15, 16, 17, 18, 19, 20, 21]] [] [some 27, some 28, some 29, some 30, some 31, some 32, some 33, some 34, some 35, some 36, some 37, some 38, some 39, some 40, some 41, some 42, some 43, some 44, some 45, some 46, some 47, some 48, some 49] := regOk (by kernel_rfl)
theorem reg_9_14 : RegOk (opsOf Try.f9 14) [[], [0], [0, 1], [0, 1, 2], [0, 1, 2, 3], [0, 1, 2, 3, 4]] [] [some 63, some 64, some 65, some 66, some 67, some 68] := regOk (by kernel_rfl)
theorem reg_9_24 : RegOk (opsOf Try.f9 24) [[], [0], [0, 1], [0, 1, 2], [0, 1, 2], [0, 1, 2, 3, 4], [0, 1, 2, 3, 4, 5]] [] [some 98, some 99, some 100, some 101, some 102, some 103, some 104] := regOk (by kernel_rfl)
set_option maxRecDepth 20000 in
set_option maxHeartbeats 1600000 in
theorem ofs_any (A : Option Addr) (n c : Nat) (xs : List Ent) (w : World) (hl : Sts Ent.cells 4 w A n xs) (hnc : n ≤ c) (hok : ∀ z ∈ xs, Ent.ok z) :
    Calls Try.prog 9 #[.slice A n c] w fun e w' => e = .returned (.bool true) ∧ Below w.heap.size w w' := by
  have HST := Lib.hid hl
  have HLEN := Lib.hid hl.len
  have HOK := Lib.hid hok
  have hmx := hl.max
  have C0 := Lib.hid (head_any w)
  clear hl hok
  go_enter Try.func9, Try.ntmps9
  go_wp2_with fail
  refine C0.out.mono ?_
  rintro e w1 ⟨rfl, hb1⟩
  have HB1 := Lib.hid hb1
  clear hb1 C0
  by_cases h40 : 40 < n
  · have t0 : decide ((40 : Int) < (n : Int)) = true := decide_eq_true (by omega)
    clear h40
    go_wp2_with fail
    go_ret
    exact ⟨rfl, HB1.out⟩
  · have t0 : decide ((40 : Int) < (n : Int)) = false := decide_eq_false (by omega)
    go_wp2_with fail
    go_loopw [22] (fun i wr => ∃ k : Nat, k ≤ n ∧ i = .int .i64 k ∧ Hid (GoodE xs k) ∧ Hid (Below w.heap.size w wr)) (fun i _ => n - (intOf i).toNat)
    case atStart => exact ⟨0, by omega, rfl, Lib.hid (fun j x hj => absurd hj (by omega)), HB1⟩
    case round =>
      obtain ⟨k, hk, rfl, HG, HW⟩ := hrel
      by_cases hlt : k < n
      · have t1 : decide ((k : Int) < (n : Int)) = true := decide_eq_true (by omega)
        obtain ⟨ad, rfl, hc⟩ := (sts_below HST.out HW.out).row (by omega)
        obtain ⟨x, hp⟩ : ∃ x : Ent, xs[k]? = some x := ⟨_, List.getElem?_eq_getElem (by rw [HLEN.out]; exact hlt)⟩
        obtain ⟨y, hq⟩ : ∃ y : Ent, xs[k - 1]? = some y := ⟨_, List.getElem?_eq_getElem (by rw [HLEN.out]; omega)⟩
        have hcell := hc k _ hp
        have HCY := Lib.hid (hc (k - 1) _ hq)
        have HXO := Lib.hid (HOK.out _ (List.mem_of_getElem? hp))
        have HYO := Lib.hid (HOK.out _ (List.mem_of_getElem? hq))
        have HP := Lib.hid hp
        have HQ := Lib.hid hq
        obtain ⟨D, hD⟩ : ∃ D, ((decide (((x.val.size : Nat) : Int) > 300) || (((x.check : Nat) : Int) != 0)) || (decide (((k : Nat) : Int) > 0) && decide (y.cmp x ≥ 0))) = D := ⟨_, rfl⟩
        have HD := Lib.hid hD
        clear hc hp hq hD
        go_upto_region 8 with (first
          | (refine wpList_index_st rfl 59 _ _ rfl stE rfl rfl rfl hlt ?_)
          | (refine wpList_load_at rfl 61 _ rfl _ x.cells rfl hcell Try.underlying61 rfl info61 ?_)
          | (refine wpList_store_box rfl 61 (.tmp 4) (.tmp 26) rfl wr.heap.size x.cells rfl rfl (heap_alloc_new wr _) rfl info61 (by rfl) ?_; intro w4 hs4; have HS4 := Lib.hid hs4; clear hs4))
        have hb4 : Below wr.heap.size wr w4 := HS4.out.then_ (below_alloc (Below.refl _ _) _) (Nat.le_refl _)
        have HX4 := Lib.hid HS4.out.at_
        have HW4 := Lib.hid (below_then HW.out HW.out.size hb4)
        have HCY4 := Lib.hid (fun j v h => below_cell hb4 (HCY.out j v h))
        clear hb4 HS4 HW HCY hcell
        generalize wr.heap.size = b4 at HX4 ⊢
        refine draws_ (fun wq => Below w4.heap.size w4 wq) (fun _ => True) (by kernel_rfl) reg_9_8 rfl inv0 (fun _ _ _ _ => trivial) (below_drew (Below.refl _ _)) trivial ?_
        refine w_val [(4, _)] _ (fun vs w hK => ⟨wants_none rfl, rho_out rfl rfl, trivial⟩) rfl (fun wq hI => by simp only [execOp, Option.map_some, Option.map_none, lk_tmp, lk_const, lkT_cons, ↓reduceIte, Nat.reduceEqDiff]; go_simp; (first | done | rfl)) ?_
        refine w_val [(27, _)] (_) (fun vs w hK => ⟨wants_none rfl, rho_in rfl (fv (hK 0 (memE rfl))), trivial⟩) rfl (fun wq hI => by exact run_load_cell (ad := ⟨b4, 3, none⟩) (v := .string x.val) rfl rfl rfl Try.underlying9 rfl (cell_ent (box_stays HX4.out hI) rfl)) ?_
        refine w_val [(28, _)] (_) (fun vs w hK => ⟨wants_none rfl, rho_in rfl (fv (hK 1 (memE rfl))), trivial⟩) rfl (fun wq hI => by exact run_len_str rfl Try.underlying9 rfl rfl) ?_
        refine w_val [(29, _)] (_) (fun vs w hK => ⟨wants_none rfl, rho_in rfl (fv (hK 2 (memE rfl))), trivial⟩) rfl (fun wq hI => by exact run_int_gtr rfl rfl rfl rfl) ?_
        refine w_move (.inl rfl) (fun vs w hK => ⟨wants_none rfl, rho_in rfl (fv (hK 3 (memE rfl)))⟩) ?_
        refine w_valG [(4, _)] (x.ag) (fun vs w hK => wantsF rfl (fv (hK 4 (memE rfl)))) (fun hG vs w hK => ⟨(rho_out rfl rfl), trivial⟩) rfl (fun hG wq hI => by exact run_load_op rfl rfl (load_ent (box_stays HX4.out hI))) ?_
        refine w_callG [(32, _)] _ _ (by decide) (fun vs w hK => wantsF rfl (fv (hK 4 (memE rfl)))) (fun hG vs w hK => ⟨(rho_in rfl (fvg (hK 5 (memE rfl)) hG)), trivial⟩) rfl rfl Try.func31 (by kernel_rfl) rfl (fun hG wq hI => check_any x HXO.out wq) (margs rfl) ?_
        refine w_valG [(33, _)] (_) (fun vs w hK => wantsF rfl (fv (hK 4 (memE rfl)))) (fun hG vs w hK => ⟨(rho_in rfl (fvg (hK 6 (memE rfl)) hG)), trivial⟩) rfl (fun hG wq hI => by exact run_int_neq rfl rfl rfl rfl) ?_
        refine w_or rfl (fun vs w hK => wants_none rfl) (fun vs w hK => (rho_in rfl (fv (hK 4 (memE rfl))))) (fun hB vs w hK => (rho_in rfl (fvg (hK 7 (memE rfl)) (gnot hB)))) ?_
        refine w_move (.inl rfl) (fun vs w hK => ⟨wants_none rfl, rho_in rfl (fv (hK 8 (memE rfl)))⟩) ?_
        refine w_moveG (.inl rfl) (fun vs w hK => wantsF rfl (fv (hK 9 (memE rfl)))) (fun hG vs w hK => (rho_out rfl rfl)) ?_
        refine w_valG [(37, _)] (_) (fun vs w hK => wantsF rfl (fv (hK 9 (memE rfl)))) (fun hG vs w hK => ⟨(rho_in rfl (fvg (hK 10 (memE rfl)) hG)), trivial⟩) rfl (fun hG wq hI => by exact run_int_gtr rfl rfl rfl rfl) ?_
        refine w_moveG (.inl rfl) (fun vs w hK => wantsF rfl (fv (hK 9 (memE rfl)))) (fun hG vs w hK => (rho_in rfl (fvg (hK 11 (memE rfl)) hG))) ?_
        refine w_moveG (.inl rfl) (fun vs w hK => wantsTg rfl (fv (hK 12 (memE rfl)))) (fun hG vs w hK => (rho_out rfl rfl)) ?_
        refine w_moveG (.inl rfl) (fun vs w hK => wantsTg rfl (fv (hK 12 (memE rfl)))) (fun hG vs w hK => (rho_out rfl rfl)) ?_
        refine w_valG [(41, _)] (_) (fun vs w hK => wantsTg rfl (fv (hK 12 (memE rfl)))) (fun hG vs w hK => ⟨(rho_in rfl (fvg (hK 14 (memE rfl)) hG)), trivial⟩) rfl (fun hG wq hI => by exact run_int_sub (c := ((k - 1 : Nat) : Int)) rfl rfl rfl (by have h := hG; simp at h; rw [i64_id (by omega) (by omega)]; omega)) ?_
        refine w_valG [(40, _), (42, _)] (_) (fun vs w hK => wantsTg rfl (fv (hK 12 (memE rfl)))) (fun hG vs w hK => ⟨(rho_in rfl (fvg (hK 13 (memE rfl)) hG)), (rho_in rfl (fvg (hK 15 (memE rfl)) hG)), trivial⟩) rfl (fun hG wq hI => by exact op_index_st (i := k - 1) stE rfl rfl rfl rfl (by omega)) ?_
        refine w_valG [(43, _)] (y.ag) (fun vs w hK => wantsTg rfl (fv (hK 12 (memE rfl)))) (fun hG vs w hK => ⟨(rho_in rfl (fvg (hK 16 (memE rfl)) hG)), trivial⟩) rfl (fun hG wq hI => by exact ent_load rfl rfl (fun j v h => below_cell hI (HCY4.out j v h))) ?_
        refine w_valG [(4, _)] (x.ag) (fun vs w hK => wantsTg rfl (fv (hK 12 (memE rfl)))) (fun hG vs w hK => ⟨(rho_out rfl rfl), trivial⟩) rfl (fun hG wq hI => by exact run_load_op rfl rfl (load_ent (box_stays HX4.out hI))) ?_
        refine w_callG [(44, _), (45, _)] _ _ (by decide) (fun vs w hK => wantsTg rfl (fv (hK 12 (memE rfl)))) (fun hG vs w hK => ⟨(rho_in rfl (fvg (hK 17 (memE rfl)) hG)), (rho_in rfl (fvg (hK 18 (memE rfl)) hG)), trivial⟩) rfl rfl Try.func32 (by kernel_rfl) rfl (fun hG wq hI => cmp_any y x HYO.out HXO.out wq) (margs rfl) ?_
        refine w_valG [(46, _)] (_) (fun vs w hK => wantsTg rfl (fv (hK 12 (memE rfl)))) (fun hG vs w hK => ⟨(rho_in rfl (fvg (hK 19 (memE rfl)) hG)), trivial⟩) rfl (fun hG wq hI => by exact run_int_geq rfl rfl rfl rfl) ?_
        refine w_andG rfl (fun vs w hK => wantsF rfl (fv (hK 9 (memE rfl)))) (fun hG vs w hK => (rho_in rfl (fvg (hK 12 (memE rfl)) hG))) (fun hG hB vs w hK => (rho_in rfl (fvg (hK 20 (memE rfl)) (gand hG hB)))) ?_
        refine w_or rfl (fun vs w hK => wants_none rfl) (fun vs w hK => (rho_in rfl (fv (hK 9 (memE rfl))))) (fun hB vs w hK => (rho_in rfl (fvg (hK 21 (memE rfl)) (gnot hB)))) ?_
        refine w_as (c' := .bool D) (congrArg Value.bool (by rw [← HD.out])) ?_
        refine w_endM [false, false, false, false, false, false, false, false, false, false, false, false, false, false, false, false, false, false, false, false, false, false, true] rfl rfl rfl (fun vs wq hI hF => ?_)
        simp only [List.reverse_cons, List.reverse_nil, List.nil_append, List.cons_append, finL_val, finL_of, finL_any, finL_app, finL_new, finL_gr, finL_row, finL_box, finL_nil, Act.put, List.setIfInBounds_toArray, List.set_cons_zero, List.set_cons_succ, Nat.reduceAdd, maskF, finL_imp, Bool.not_false, Bool.not_true, Bool.true_and, Bool.false_and]
        have HW5 := Lib.hid (below_then HW4.out HW4.out.size hI)
        clear hI hF HX4 HW4 HCY4
        cases D with
        | true =>
          go_wp2_with fail
          go_ret
          exact ⟨rfl, HW5.out⟩
        | false =>
          have HG2 : Hid (GoodE xs (k + 1)) := Lib.hid (fun j x' hj hx' => by
            rcases Nat.lt_or_ge j k with g | g
            · exact HG.out j x' g hx'
            · obtain rfl : j = k := by omega
              rw [HP.out] at hx'
              injection hx' with hx'
              subst hx'
              have h := HD.out
              rw [Bool.or_eq_false_iff, Bool.or_eq_false_iff] at h
              obtain ⟨⟨h1, h2⟩, h3⟩ := h
              have h1 := of_decide_eq_false h1
              have h2 : ((x.check : Nat) : Int) = 0 := by simpa using h2
              refine ⟨by omega, by omega, fun h0 y' hy' => ?_⟩
              rw [HQ.out] at hy'
              injection hy' with hy'
              subst hy'
              rw [decide_eq_true (show ((j : Nat) : Int) > 0 by omega), Bool.true_and] at h3
              have h3 := of_decide_eq_false h3
              omega)
          clear HD HP HQ HG
          go_wp2_with fail
          go_roundw
          case rel => exact ⟨k + 1, by omega, by go_num, HG2, HW5⟩
          case measure => simp [intOf]; omega
      · obtain rfl : k = n := by omega
        have t1 : decide ((k : Int) < (k : Int)) = false := by simp
        have hge : GoodE xs xs.length := by rw [HLEN.out]; exact HG.out
        have hkey : ∀ z ∈ xs, z.key.size ≤ 70000 := by
          intro z hz
          obtain ⟨j, hj, he⟩ := List.getElem_of_mem hz
          have h1 := (hge j z hj (by rw [List.getElem?_eq_getElem hj, he])).1
          have := (check_zero.1 h1).2.1
          omega
        have hgd := ofL_good hge (by rw [HLEN.out]; omega)
        have HGE := Lib.hid hge
        have HGD : Hid (Good (nn (ofL xs)) (ofL xs).length) := Lib.hid (by rw [ofL_length]; exact hgd)
        have C1 := Lib.hid (of_any A k c xs wr (sts_below HST.out HW.out) HOK.out hkey (by omega))
        clear hge hkey hgd hlt HG
        go_wp2_with fail
        refine C1.out.mono ?_
        rintro e w2 ⟨v2, rfl, ho2, hb2⟩
        obtain ⟨A2, n2, c2, rfl, _, _, _, hs2⟩ := ownk_open encP_len ho2
        have HW2 := Lib.hid (below_then HW.out HW.out.size hb2)
        have C2 := Lib.hid (make_page A2 n2 c2 (ofL xs) w2 hs2 HGD.out (page_sizes HGD.out))
        clear ho2 hb2 hs2 C1 HW
        go_wp2_with fail
        refine C2.out.mono ?_
        rintro e w3 ⟨v3, rfl, hg3, hb3⟩
        obtain ⟨A3, n3, c3, rfl, h3c, HL3, _, hr3⟩ := gr_open hg3
        have hip : IsPage (pageOf (nn (ofL xs))) (nn (ofL xs)) := ⟨by rw [nn_length]; exact HGD.out, rfl⟩
        have hn3 : n3 ≤ 300000 := by
          have h1 := page_length (nn (ofL xs))
          have h2 := body_fit HGD.out
          have h3 := HL3.out
          rw [nn_length] at h1
          have : cntAt (ofL xs).length ≤ 100 := by rw [ofL_length, HLEN.out]; unfold cntAt; omega
          omega
        have HIP := Lib.hid hip
        have HW3 := Lib.hid (below_then HW2.out HW2.out.size hb3)
        have C3 := Lib.hid (parse_gen A3 n3 c3 (pageOf (nn (ofL xs))) w3 hr3 (page_byte (nn_byte _)) h3c (by omega))
        clear hg3 hb3 hr3 hip C2 HW2 HL3
        go_wp2_with fail
        refine C3.out.mono ?_
        rintro e w4 ⟨hb4, bv, wv, ex, qs, rfl, hgd, hbv, hwv, hcase⟩
        obtain ⟨Ab, nbb, cb, rfl, _⟩ := gr_open hbv
        obtain ⟨Aw, nw, cw, rfl, _⟩ := gr_open hwv
        rcases hcase with ⟨rfl, hip2⟩ | ⟨_, _, hno⟩
        · obtain rfl : qs = ofL xs := nn_inj (page_inj hip2.1 HIP.out.1 hip2.2)
          have HBV := Lib.hid hbv
          have HWV := Lib.hid hwv
          have HW4 := Lib.hid (below_then HW3.out HW3.out.size hb4)
          clear hb4 hgd hbv hwv hip2 HW3 C3 HIP
          go_upto_region 14 with (first | (refine wpList_store_box rfl 36 (.tmp 8) (.tmp 61) rfl w4.heap.size [.slice Ab nbb cb, .slice Aw nw cw] rfl rfl (heap_alloc_new w4 _) rfl info36 rfl ?_; intro w5 hs5; have HS5 := Lib.hid hs5; clear hs5) | fail)
          have hb5 : Below w4.heap.size w4 w5 := HS5.out.then_ (below_alloc (Below.refl _ _) _) (Nat.le_refl _)
          have HX5 := Lib.hid HS5.out.at_
          have HBV5 := Lib.hid (gr_below HBV.out hb5)
          have HWV5 := Lib.hid (gr_below HWV.out hb5)
          have HW5 := Lib.hid (below_then HW4.out HW4.out.size hb5)
          clear hb5 HS5 HBV HWV HW4
          generalize w4.heap.size = b5 at HX5 ⊢
          refine plain_ (fun wq => Below w5.heap.size w5 wq) (fun _ => True) reg_9_14 rfl inv0 (fun _ _ _ _ => trivial) (Below.refl _ _) trivial ?_
          refine w_move (.inl rfl) (fun vs w hK => ⟨wants_none rfl, rho_out rfl rfl⟩) ?_
          refine w_val [(63, _)] (_) (fun vs w hK => ⟨wants_none rfl, rho_in rfl (fv (hK 0 (memE rfl))), trivial⟩) rfl (fun wq hI => by exact run_int_neq (r := false) rfl rfl rfl rfl) ?_
          refine w_move (.inl rfl) (fun vs w hK => ⟨wants_none rfl, rho_in rfl (fv (hK 1 (memE rfl)))⟩) ?_
          refine w_move (.inl rfl) (fun vs w hK => ⟨wants_g rfl (fv (hK 2 (memE rfl))), rho_out rfl rfl⟩) ?_
          refine w_val [(66, _)] (_) (fun vs w hK => ⟨wants_g rfl (fv (hK 2 (memE rfl))), rho_in rfl (fv (hK 3 (memE rfl))), trivial⟩) rfl (fun wq hI => by exact run_int_neq (r := false) rfl rfl rfl rfl) ?_
          refine w_pick (b := false) rfl (fun vs w hK => ⟨wants_none rfl, (rho_in rfl (fv (hK 2 (memE rfl)))), (rho_in rfl (fv (hK 4 (memE rfl))))⟩) ?_
          refine w_end rfl rfl rfl (fun vs wq hI hF => ?_)
          simp only [List.reverse_cons, List.reverse_nil, List.nil_append, List.cons_append, finL_val, finL_of, finL_any, finL_app, finL_new, finL_gr, finL_row, finL_box, finL_nil, Act.put, List.setIfInBounds_toArray, List.set_cons_zero, List.set_cons_succ, Nat.reduceAdd]
          have HX6 := Lib.hid (box_stays HX5.out hI)
          have HW6 := Lib.hid (below_then HW5.out HW5.out.size hI)
          have C4 := Lib.hid (all_page (.slice Ab nbb cb) (.slice Aw nw cw) (ofL xs) wq w3.heap.size HGD.out (gr_below HBV5.out hI) (gr_below HWV5.out hI))
          clear hI hF HX5 HW5 HBV5 HWV5
          obtain ⟨w6, rfl⟩ : ∃ w6 : World, w6 = wq := ⟨_, rfl⟩
          go_wp2_with (first | (refine wpList_load_box rfl 36 (.tmp 8) rfl b5 [.slice Ab nbb cb, .slice Aw nw cw] rfl HX6.out Try.underlying36 rfl info36 ?_) | fail)
          refine C4.out.mono ?_
          rintro e w7 ⟨v7, rfl, ho7, hb7⟩
          obtain ⟨A7, n7, c7, rfl, _, HL7, _, hs7⟩ := ownk_open encP_len ho7
          have hn7 : k = n7 := by rw [← HL7.out, ofL_length, HLEN.out]
          subst hn7
          have HS7 := Lib.hid hs7
          have HW7 := Lib.hid (below_then HW6.out HW6.out.size hb7)
          have t2 : (((k : Nat) : Int) != ((k : Nat) : Int)) = false := by simp
          clear ho7 hb7 hs7 HL7 C4 HW6 HX6
          go_wp2_with fail
          go_loopw [78] (fun i wr => ∃ j : Nat, j ≤ k ∧ i = .int .i64 j ∧ Hid (Below w7.heap.size w7 wr)) (fun i _ => k - (intOf i).toNat)
          case atStart => exact ⟨0, by omega, rfl, Lib.hid (Below.refl _ _)⟩
          case round =>
            obtain ⟨j, hj, rfl, HJ⟩ := hrel
            by_cases hlt : j < k
            · have t3 : decide ((j : Int) < (k : Int)) = true := decide_eq_true (by omega)
              have hbw := below_then HW7.out HW7.out.size HJ.out
              obtain ⟨ad, rfl, hc⟩ := (sts_below HST.out hbw).row (by omega)
              obtain ⟨ad2, rfl, hc2⟩ := (sts_below HS7.out HJ.out).row (by omega)
              obtain ⟨x, hp⟩ : ∃ x : Ent, xs[j]? = some x := ⟨_, List.getElem?_eq_getElem (by rw [HLEN.out]; exact hlt)⟩
              have hcell := hc j _ hp
              have hpo : (ofL xs)[j]? = some (x.inner, x.val) := by
                unfold ofL
                rw [List.getElem?_map, hp]
                rfl
              have hn1 := hc2 j _ hpo 0 _ rfl
              rw [Addr.add_add, Nat.add_zero] at hn1
              have hn2 := hc2 j _ hpo 1 _ rfl
              have hck := (HGE.out j x (by rw [HLEN.out]; exact hlt) hp)
              have hin := inner_size (x := x)
              have hks := (check_zero.1 hck.1).2.1
              have hto : told (outer (numsOf x.inner)) = (x.bare, 0) := by
                have h1 : numsOf x.inner = x.inL := numsOf_strOfNums _ (inL_byte x)
                rw [h1, outer_inner x hck.1]
                rfl
              have HTO := Lib.hid hto
              clear hc hc2 hp hpo hto
              generalize hxi : x.inner = nm at hn1 HTO hin
              have C5 := Lib.hid (fun wq => outer_any nm (by omega) wq)
              rw [HTO.out] at C5
              have HN1 := Lib.hid hn1
              have HN2 := Lib.hid hn2
              clear HTO hxi hn2
              go_upto_region 22 with (first
                | (refine wpList_index_st rfl 59 _ _ rfl stE rfl rfl rfl hlt ?_)
                | (refine wpList_load_at rfl 61 _ rfl _ x.cells rfl hcell Try.underlying61 rfl info61 ?_)
                | (refine wpList_store_box rfl 61 (.tmp 12) (.tmp 82) rfl wr.heap.size x.cells rfl rfl (heap_alloc_new wr _) rfl info61 (by rfl) ?_; intro w8 hs8; have HS8 := Lib.hid hs8; clear hs8))
              have hb8 : Below wr.heap.size wr w8 := HS8.out.then_ (below_alloc (Below.refl _ _) _) (Nat.le_refl _)
              have HX8 := Lib.hid HS8.out.at_
              have HJ8 := Lib.hid (below_then HJ.out HJ.out.size hb8)
              have hm1 := below_cell hb8 HN1.out
              have HN8 := Lib.hid (below_cell hb8 HN2.out)
              clear hb8 HS8 HJ HN1 HN2 hn1 hcell hbw
              generalize wr.heap.size = b8 at HX8 ⊢
              go_wp2_with (first | (refine wpList_index_st rfl 22 _ _ rfl sts22 rfl rfl rfl hlt ?_) | fail)
              refine (C5.out _).mono ?_
              rintro e w9 ⟨rfl, hb9⟩
              have HX9 := Lib.hid (box_stays HX8.out hb9)
              have HJ9 := Lib.hid (below_then HJ8.out HJ8.out.size hb9)
              have hm2 := below_cell hb9 HN8.out
              clear hb9 HX8 HJ8 HN8 hm1 C5
              simp only [Ent.ag]
              go_upto_region 23 with (first | (refine wpList_store_box rfl 61 (.tmp 13) (.tmp 90) rfl w9.heap.size x.bare.cells rfl rfl (heap_alloc_new w9 _) rfl info61 (by rfl) ?_; intro w10 hs10; have HS10 := Lib.hid hs10; clear hs10) | fail)
              have hb10 : Below w9.heap.size w9 w10 := HS10.out.then_ (below_alloc (Below.refl _ _) _) (Nat.le_refl _)
              have HX10 := Lib.hid (box_stays HX9.out hb10)
              have HY10 := Lib.hid HS10.out.at_
              have HJ10 := Lib.hid (below_then HJ9.out HJ9.out.size hb10)
              have hm3 := below_cell hb10 hm2
              have hm4 : w10.cell? { block := (ad2.add (j * 2)).block, off := (ad2.add (j * 2)).off + 1, spot := none } = some (.string x.val) := hm3
              clear hm3
              have hlt89 : b8 < w9.heap.size := mk_lt HX9.out
              have hw79 : w7.heap.size ≤ w9.heap.size := HJ9.out.size
              clear hb10 HS10 HX9 HJ9 hm2
              generalize w9.heap.size = b10 at HY10 hlt89 hw79 ⊢
              go_upto_region 24 with (first
                | (refine wpList_index_st rfl 22 _ _ rfl sts22 rfl rfl rfl hlt ?_)
                | (refine wpList_store_cell rfl 9 _ _ rfl b10 3 (.string x.val) rfl rfl rfl HY10.out (by show 3 < 4; omega) info9 ?_; intro w11 hs11; have HS11 := Lib.hid hs11; clear hs11))
              have HX11 := Lib.hid (HS11.out.keep HX10.out (by omega))
              have HY11 : Hid (w11.heap[b10]? = some (.cells x.cells.toArray 61 (0, 0))) := Lib.hid HS11.out.at_
              have HJ11 : Hid (Below w7.heap.size w7 w11) := Lib.hid (HS11.out.then_ HJ10.out hw79)
              clear HS11 HX10 HY10 HJ10 hm4
              refine plain_ (fun wq => Below w11.heap.size w11 wq) (fun _ => True) reg_9_24 rfl inv0 (fun _ _ _ _ => trivial) (Below.refl _ _) trivial ?_
              refine w_move (.inl rfl) (fun vs w hK => ⟨wants_none rfl, rho_out rfl rfl⟩) ?_
              refine w_val [(98, _)] (_) (fun vs w hK => ⟨wants_none rfl, rho_in rfl (fv (hK 0 (memE rfl))), trivial⟩) rfl (fun wq hI => by exact run_int_neq (r := false) rfl rfl rfl rfl) ?_
              refine w_move (.inl rfl) (fun vs w hK => ⟨wants_none rfl, rho_in rfl (fv (hK 1 (memE rfl)))⟩) ?_
              refine w_val [(13, _)] (x.ag) (fun vs w hK => ⟨wants_g rfl (fv (hK 2 (memE rfl))), rho_out rfl rfl, trivial⟩) rfl (fun wq hI => by exact run_load_op rfl rfl (load_ent (box_stays HY11.out hI))) ?_
              refine w_val [(12, _)] (x.ag) (fun vs w hK => ⟨wants_g rfl (fv (hK 2 (memE rfl))), rho_out rfl rfl, trivial⟩) rfl (fun wq hI => by exact run_load_op rfl rfl (load_ent (box_stays HX11.out hI))) ?_
              refine w_val [(101, _), (102, _)] (_) (fun vs w hK => ⟨wants_g rfl (fv (hK 2 (memE rfl))), rho_in rfl (fv (hK 3 (memE rfl))), rho_in rfl (fv (hK 4 (memE rfl))), trivial⟩) rfl (fun wq hI => by exact op_ent_neq (r := false) rfl rfl rfl (by rw [Ent.eqb_self]; rfl)) ?_
              refine w_pick (b := false) rfl (fun vs w hK => ⟨wants_none rfl, (rho_in rfl (fv (hK 2 (memE rfl)))), (rho_in rfl (fv (hK 5 (memE rfl))))⟩) ?_
              refine w_end rfl rfl rfl (fun vs wq hI hF => ?_)
              simp only [List.reverse_cons, List.reverse_nil, List.nil_append, List.cons_append, finL_val, finL_of, finL_any, finL_app, finL_new, finL_gr, finL_row, finL_box, finL_nil, Act.put, List.setIfInBounds_toArray, List.set_cons_zero, List.set_cons_succ, Nat.reduceAdd]
              have HJ12 := Lib.hid (below_then HJ11.out HJ11.out.size hI)
              clear hI hF
              go_wp2_with fail
              go_roundw
              case rel => exact ⟨j + 1, by omega, by go_num, HJ12⟩
              case measure => simp [intOf]; omega
            · obtain rfl : j = k := by omega
              have t3 : decide ((j : Int) < (j : Int)) = false := by simp
              have HF := Lib.hid (below_then HW7.out HW7.out.size HJ.out)
              go_wp2_with fail
              go_ret
              exact ⟨rfl, HF.out⟩
        · exact absurd HIP.out (hno _)
end Go.Proofs.Ytnkeijdpjcclcaa.Pg
-- RowPageOfs
/- changes as pairs stand in order, and read back they are they -/
namespace Go.Proofs.Ytnkeijdpjcclcaa.pageOfs
open Go.ChangeShapes Go.WideShapes Go.ChangeAt Go.RowKit Go.Proofs.YtnkeijdpjcclcaaW Go.Proofs.YtnkeijdpjcclcaaW.PrintWords Go.Proofs.Ytnkeijdpjcclcaa.Kit
open Go.ChangeMaps (open_string shut_string)
set_option linter.unusedVariables false
theorem own : ownKnob Try.prog.godebug = none := by kernel_rfl
theorem laidOut : laidOutB Try.prog = true := by kernel_rfl
def IsRow (k : IntKind) (w : World) (a : Option Addr) (len cap : Nat) (zs : List Int) : Prop :=
  (a = none ∧ len = 0 ∧ cap = 0 ∧ zs = []) ∨
  ∃ x, a = some x ∧ len ≤ cap ∧ cap ≤ maxLen ∧ zs.length = cap ∧ (∀ i, i < zs.length → w.cell? (x.add i) = some (.int k (zs.getD i 0))) ∧ ∀ n ∈ zs, (Lit.int k n).wf = true
set_option maxRecDepth 100000 in
theorem lifted (os : Os) (started : os.Started) (H : Type) (enc : TypeId × Value → H) :
    ReturnsInHanded {} Try.checked os 9 .any (Rows.pageOfsSpec.pre6 enc Try.prog Try.f9 Rows.pageOfsRow.domain false) (Rows.pageOfsSpec.post enc Try.prog Try.f9 false true false false) := by
  refine returnsInHanded_of_change_sized (C := Try.checked) own started (by kernel_rfl) Try.func9
    (ChangeSpec.witness6 (enc := enc) (C := Try.checked) false ⟨#[], #[.slice none 0 0], []⟩ 8 (by kernel_rfl) (by kernel_rfl) (by kernel_rfl) (by kernel_rfl)) ?_
  intro W base args ds gs before hval0 hW hcnd hsz0 _
  have hsz : (DataW.weightsEach Try.prog (Try.f9.params.toList ++ Rows.pageOfsSpec.plain.varTypes Try.prog) (ds ++ gs)).all (· ≤ reachBytes) = true := hsz0
  have hval : ∀ (j : Nat) t v, Try.f9.params[j]? = some t → args[j]? = some v → Value.okWide Try.prog W .any base t v := hval0
  have hW' := hW
  obtain ⟨p, q, hA0, hV, rfl, hfz, hnd⟩ := hW
  have hA : DataW.TrodAll enc Try.prog W 0 (fun _ => true) true Try.f9.params.toList args.toList ds p := hA0
  rw [Try.params9] at hA hval hsz
  obtain ⟨v0, vs0, d0, ds0, p0, q0, hargs, rfl, rfl, h0, r0⟩ := trodAll_cons hA
  obtain ⟨rfl, rfl, rfl⟩ := trodAll_nil r0
  obtain rfl : args = #[v0] := by cases args; simp_all
  obtain ⟨rfl, rfl⟩ := trodVars_none hV
  obtain ⟨a0, len0, cap0, rfl⟩ := okWide_slice Try.underlying59 (hval 0 59 v0 rfl rfl)
  have k0 := h0
  have lt0 : ∀ x ∈ p0, x.block < W.heap.size := by obtain ⟨m, hm⟩ := k0; exact DataW.trod_lt m _ _ _ hm
  obtain ⟨fu0, hu0⟩ := h0
  obtain ⟨l0, hl0, hnc0, hok0⟩ := Pg.open_ents hu0
  clear hA0 hval0 hsz0 hsz
  refine (Pg.ofs_any a0 len0 cap0 l0 W hl0 hnc0 hok0).mono fun e W' ⟨he, bel⟩ => ?_
  subst he
  exact ⟨_, rfl, _, _, _, [], _, [], hW', trodAll_mk1 (shut_bool Try.underlying4 _), (trodAll_cons_mk (Below.trod laidOut (by kernel_rfl) (of_decide_eq_true (by kernel_rfl)) k0 bel lt0) trodAll_mk0), rfl, bel.frame _, fun h => by cases h⟩
theorem over : Rows.pageOfsRow.holds Try.pinned (OpenSpec.ofChange Rows.pageOfsSpec) :=
  OpenClaim.holds_of_wide 9 Try.f9 rfl rfl rfl rfl rfl rfl rfl ⟨rfl, rfl, rfl, rfl, rfl⟩ rfl rfl rfl rfl rfl (by kernel_rfl) Try.func9 (by kernel_rfl)
    (of_decide_eq_true (by kernel_rfl)) (by unfold Func.isWrapper; first | (rw [if_pos (by decide +kernel)]; kernel_rfl) | (rw [if_neg (by decide +kernel)]; exact ⟨rfl, rfl⟩))
    (fun os started H enc _ => lifted os started H enc)
#print axioms over
end Go.Proofs.Ytnkeijdpjcclcaa.pageOfs
namespace Go.Proofs.Ytnkeijdpjcclcaa
theorem pageOfs_holds : Rows.PageOfsSaid := pageOfs.over
end Go.Proofs.Ytnkeijdpjcclcaa
