/- The order of law 10, slices.BinarySearchFunc at ints. -/
import Derived.Test.YtnkeijdpjcclcaaMemA
import Derived.Test.YtnkeijdpjcclcaaOps
import Derived.Test.YtnkeijdpjcclcaaWalk4
namespace Go.Proofs.Ytnkeijdpjcclcaa.Mem
set_option linter.unusedVariables false
set_option linter.unusedSimpArgs false
open Go.Proofs.Ytnkeijdpjcclcaa.Kit Go.RowKit Go.Proofs.YtnkeijdpjcclcaaW.PrintWords Go.Proofs.YtnkeijdpjcclcaaW.PrintLast Go.Proofs.YtnkeijdpjcclcaaW.PrintMore
section
variable {α : Type} (c : α → α → Int)
/-- The place of the first that isn't ahead of x. -/
def pos (xs : List α) (x : α) : Nat := (xs.takeWhile fun y => decide (c y x < 0)).length
/-- Whether x's equal stands there. -/
def hit (xs : List α) (x : α) : Bool := match xs[pos c xs x]? with | some y => c y x == 0 | none => false
def Mono (xs : List α) (x : α) : Prop := ∀ (i j : Nat) (y z : α), i ≤ j → xs[i]? = some y → xs[j]? = some z → c z x < 0 → c y x < 0
theorem pos_of : ∀ {xs : List α} {x : α} {i : Nat}, i ≤ xs.length → (∀ (j : Nat) (y : α), j < i → xs[j]? = some y → c y x < 0) → (∀ y, xs[i]? = some y → ¬ c y x < 0) → pos c xs x = i
  | [], x, i, h, _, _ => by
    have : i = 0 := by simpa using h
    subst this
    rfl
  | a :: r, x, 0, _, _, h => by
    have := h a rfl
    simp [pos, List.takeWhile_cons, this]
  | a :: r, x, i + 1, h, h1, h2 => by
    have ih := pos_of (xs := r) (x := x) (i := i) (by simpa using h) (fun j y hj hy => h1 (j + 1) y (by omega) (by simpa using hy)) (fun y hy => h2 y (by simpa using hy))
    have h0 := h1 0 a (by omega) rfl
    unfold pos at ih ⊢
    rw [List.takeWhile_cons, if_pos (by simpa using h0), List.length_cons, ih]
theorem pos_le (xs : List α) (x : α) : pos c xs x ≤ xs.length := (List.takeWhile_sublist _).length_le
theorem pos_below : ∀ {xs : List α} {x : α} (j : Nat) (y : α), j < pos c xs x → xs[j]? = some y → c y x < 0
  | [], x, j, y, h, hy => by simp at hy
  | a :: r, x, j, y, h, hy => by
    unfold pos at h
    rw [List.takeWhile_cons] at h
    split at h
    · rename_i ha
      cases j with
      | zero =>
        rw [List.getElem?_cons_zero] at hy
        injection hy with hy
        subst hy
        exact of_decide_eq_true ha
      | succ j =>
        rw [List.length_cons] at h
        exact pos_below (xs := r) j y (by unfold pos; omega) (by simpa using hy)
    · simp at h
theorem pos_at : ∀ {xs : List α} {x : α} (y : α), xs[pos c xs x]? = some y → ¬ c y x < 0
  | [], x, y, hy => by simp at hy
  | a :: r, x, y, hy => by
    unfold pos at hy
    rw [List.takeWhile_cons] at hy
    split at hy
    · rename_i ha
      rw [List.length_cons, List.getElem?_cons_succ] at hy
      exact pos_at (xs := r) y (by unfold pos; exact hy)
    · rename_i ha
      simp only [List.length_nil, List.getElem?_cons_zero, Option.some.injEq] at hy
      subst hy
      simpa using ha
end
/-- The law's order. -/
def ordI (a b : Int) : Int := if Int.tdiv a 3 < Int.tdiv b 3 then -1 else if Int.tdiv a 3 > Int.tdiv b 3 then 1 else 0
theorem tdiv3 {a : Int} (h : -1000000 ≤ a ∧ a ≤ 1000000) : IntKind.i64.wrap (Int.tdiv a 3) = Int.tdiv a 3 := by
  have h0 := Int.natAbs_tdiv_le_natAbs a 3
  have h1 : -1000000 ≤ Int.tdiv a 3 ∧ Int.tdiv a 3 ≤ 1000000 := by omega
  exact i64_id (by omega) (by omega)
theorem reg_25_1 : RegOk (opsOf Try.f25 1) [[], [0], [], [2], [0, 1, 2, 3]] [] [some 5, some 6, some 7, some 8, some 9] := regOk (by kernel_rfl)
theorem reg_25_3 : RegOk (opsOf Try.f25 3) [[], [0], [], [2], [0, 1, 2, 3]] [] [some 10, some 11, some 12, some 13, some 14] := regOk (by kernel_rfl)
set_option maxRecDepth 20000 in
set_option maxHeartbeats 1600000 in
theorem order_any (a b : Int) (w : World) (ha : -1000000 ≤ a ∧ a ≤ 1000000) (hb : -1000000 ≤ b ∧ b ≤ 1000000) : Calls Try.prog 25 #[.int .i64 a, .int .i64 b] w fun e w' => e = .returned (.int .i64 (ordI a b)) ∧ Below w.heap.size w w' := by
  have h1 := tdiv3 ha
  have h2 := tdiv3 hb
  obtain ⟨O, hO⟩ : ∃ O, ordI a b = O := ⟨_, rfl⟩
  rw [hO]
  unfold ordI at hO
  obtain ⟨p, hp⟩ : ∃ p, Int.tdiv a 3 = p := ⟨_, rfl⟩
  obtain ⟨q, hq⟩ : ∃ q, Int.tdiv b 3 = q := ⟨_, rfl⟩
  rw [hp, hq] at hO
  have HA : Hid (IntKind.i64.wrap (Int.tdiv a 3) = p) := Lib.hid (h1.trans hp)
  have HB : Hid (IntKind.i64.wrap (Int.tdiv b 3) = q) := Lib.hid (h2.trans hq)
  have HO := Lib.hid hO
  obtain ⟨D1, hD1⟩ : ∃ D, decide (p < q) = D := ⟨_, rfl⟩
  have HD1 := Lib.hid hD1
  obtain ⟨D2, hD2⟩ : ∃ D, decide (p > q) = D := ⟨_, rfl⟩
  have HD2 := Lib.hid hD2
  clear hD1 hD2 hO ha hb h1 h2 hp hq
  go_enter Try.func25, Try.ntmps25
  go_upto_region 1 with fail
  refine plain_ (fun wq => Below w.heap.size w wq) (fun _ => True) reg_25_1 rfl inv0 (fun _ _ _ _ => trivial) (Below.refl _ _) trivial ?_
  refine w_move (.inl rfl) (fun vs w hK => ⟨wants_none rfl, rho_out rfl rfl⟩) ?_
  refine w_val [(5, _)] (_) (fun vs w hK => ⟨wants_none rfl, rho_in rfl (fv (hK 0 (memE rfl))), trivial⟩) rfl (fun wq hI => by exact op_quo rfl rfl rfl (by decide) HA.out) ?_
  refine w_move (.inl rfl) (fun vs w hK => ⟨wants_none rfl, rho_out rfl rfl⟩) ?_
  refine w_val [(7, _)] (_) (fun vs w hK => ⟨wants_none rfl, rho_in rfl (fv (hK 2 (memE rfl))), trivial⟩) rfl (fun wq hI => by exact op_quo rfl rfl rfl (by decide) HB.out) ?_
  refine w_val [(6, _), (8, _)] (_) (fun vs w hK => ⟨wants_none rfl, rho_in rfl (fv (hK 1 (memE rfl))), rho_in rfl (fv (hK 3 (memE rfl))), trivial⟩) rfl (fun wq hI => by exact run_int_lss rfl rfl rfl HD1.out) ?_
  refine w_end rfl rfl rfl (fun vs wq hI hF => ?_)
  simp only [List.reverse_cons, List.reverse_nil, List.nil_append, List.cons_append, finL_val, finL_of, finL_any, finL_app, finL_new, finL_gr, finL_row, finL_box, finL_nil, Act.put, List.setIfInBounds_toArray, List.set_cons_zero, List.set_cons_succ, Nat.reduceAdd]
  have HW := Lib.hid hI
  clear hI hF
  obtain ⟨w1, rfl⟩ : ∃ w1 : World, w1 = wq := ⟨_, rfl⟩
  cases D1 with
  | true =>
    have e := HO.out
    rw [if_pos (of_decide_eq_true HD1.out)] at e
    go_wp2_with fail
    go_ret
    exact ⟨congrArg (fun o => Ending.returned (Value.int .i64 o)) e, HW.out⟩
  | false =>
    have e := HO.out
    rw [if_neg (of_decide_eq_false HD1.out)] at e
    have HE := Lib.hid e
    clear e HO
    go_upto_region 3 with fail
    refine plain_ (fun wq => Below w1.heap.size w1 wq) (fun _ => True) reg_25_3 rfl inv0 (fun _ _ _ _ => trivial) (Below.refl _ _) trivial ?_
    refine w_move (.inl rfl) (fun vs w hK => ⟨wants_none rfl, rho_out rfl rfl⟩) ?_
    refine w_val [(10, _)] (_) (fun vs w hK => ⟨wants_none rfl, rho_in rfl (fv (hK 0 (memE rfl))), trivial⟩) rfl (fun wq hI => by exact op_quo rfl rfl rfl (by decide) HA.out) ?_
    refine w_move (.inl rfl) (fun vs w hK => ⟨wants_none rfl, rho_out rfl rfl⟩) ?_
    refine w_val [(12, _)] (_) (fun vs w hK => ⟨wants_none rfl, rho_in rfl (fv (hK 2 (memE rfl))), trivial⟩) rfl (fun wq hI => by exact op_quo rfl rfl rfl (by decide) HB.out) ?_
    refine w_val [(11, _), (13, _)] (_) (fun vs w hK => ⟨wants_none rfl, rho_in rfl (fv (hK 1 (memE rfl))), rho_in rfl (fv (hK 3 (memE rfl))), trivial⟩) rfl (fun wq hI => by exact run_int_gtr rfl rfl rfl HD2.out) ?_
    refine w_end rfl rfl rfl (fun vs wq hI hF => ?_)
    simp only [List.reverse_cons, List.reverse_nil, List.nil_append, List.cons_append, finL_val, finL_of, finL_any, finL_app, finL_new, finL_gr, finL_row, finL_box, finL_nil, Act.put, List.setIfInBounds_toArray, List.set_cons_zero, List.set_cons_succ, Nat.reduceAdd]
    have HW2 := Lib.hid (below_then HW.out HW.out.size hI)
    clear hI hF
    cases D2 with
    | true =>
      have e := HE.out
      rw [if_pos (of_decide_eq_true HD2.out)] at e
      go_wp2_with fail
      go_ret
      exact ⟨congrArg (fun o => Ending.returned (Value.int .i64 o)) e, HW2.out⟩
    | false =>
      have e := HE.out
      rw [if_neg (of_decide_eq_false HD2.out)] at e
      go_wp2_with fail
      go_ret
      exact ⟨congrArg (fun o => Ending.returned (Value.int .i64 o)) e, HW2.out⟩
theorem half_i64 (q : Nat) (h : q ≤ 4000000000) : ((q : Nat) : Int) / 2 ^ min ((1 : Int)).toNat IntKind.u64.bits = ((q / 2 : Nat) : Int) := by
  show ((q : Nat) : Int) / 2 ^ 1 = _
  omega
--BSF
theorem reg_55_4 : RegOk (opsOf Try.f55 4) [[], [], [0, 1], [0, 1, 2], [0, 1, 2, 3], [0, 1, 2, 3, 4], [0, 1, 2, 3, 4, 5]] [] [some 18, some 19, some 20, some 21, some 22, some 23, some 11] := regOk (by kernel_rfl)
theorem reg_55_8 : RegOk (opsOf Try.f55 8) [[], [], [], [1, 2], [1, 2, 3], [1, 2, 3, 4], [1, 2, 3, 4], [1, 2, 3, 4], [1, 2, 3, 4, 6, 7], [1, 2, 3, 4, 6, 7, 8], [1, 2, 3, 4], [1, 2, 3, 4, 5, 6, 7, 8, 9, 10], [1, 2, 3, 4, 5, 6, 7, 8, 9, 10, 11], [1, 2, 3, 4, 5, 6, 7, 8, 9, 10, 11, 12], [0, 1, 2, 3, 4, 5, 6, 7, 8, 9, 10, 11], [0, 1, 2, 3, 4, 5, 6, 7, 8, 9, 10, 11, 12, 13, 14]] [] [some 35, some 36, some 37, some 38, some 39, some 40, some 41, some 42, some 43, some 44, some 45, some 46, some 47, some 48, some 6, some 7] := regOk (by kernel_rfl)
set_option maxRecDepth 20000 in
set_option maxHeartbeats 1600000 in
theorem bsfI_any (A : Option Addr) (n c : Nat) (xs : List Int) (x : Int) (w : World) (hn : n ≤ 1000000000) (hr : Sts encI kI w A n xs) (hm : Mono ordI xs x) (hstep : ∀ y W, y ∈ xs → Calls Try.prog 25 #[.int .i64 y, .int .i64 x] W fun e W' => e = .returned (.int .i64 (ordI y x)) ∧ Below W.heap.size W W') :
    Calls Try.prog 55 #[.slice A n c, .int .i64 x, .func (.func 25) #[] #[]] w fun e w' => e = .returned (.tuple #[.int .i64 (pos ordI xs x : Nat), .bool (hit ordI xs x)]) ∧ Below w.heap.size w w' := by
  have HS := Lib.hid hstep
  have HM := Lib.hid hm
  have HR := Lib.hid hr
  have HL := Lib.hid hr.len
  obtain ⟨PO, hPO⟩ : ∃ PO, pos ordI xs x = PO := ⟨_, rfl⟩
  obtain ⟨T, hT⟩ : ∃ T, hit ordI xs x = T := ⟨_, rfl⟩
  rw [hPO, hT]
  have HPO := Lib.hid hPO
  have HTT := Lib.hid hT
  clear hstep hm hr hPO hT
  go_enter Try.func55, Try.ntmps55
  go_wp2_with fail
  go_loopw [9, 10, 11] (fun a b z wr => ∃ i j : Nat, i ≤ j ∧ j ≤ n ∧ a = .int .i64 i ∧ b = .int .i64 j ∧ Hid (∀ (q : Nat) (y : Int), q < i → xs[q]? = some y → ordI y x < 0) ∧ Hid (∀ y : Int, xs[j]? = some y → 0 ≤ ordI y x) ∧ Hid (Below w.heap.size w wr)) (fun a b _ _ => (intOf b).toNat - (intOf a).toNat)
  case atStart => exact ⟨0, n, by omega, by omega, rfl, rfl, Lib.hid (fun q y hq => absurd hq (by omega)), Lib.hid (fun y hy => by have := (List.getElem?_eq_some_iff.1 hy).1; have := HL.out; omega), Lib.hid (Below.refl _ _)⟩
  case round =>
    obtain ⟨i, j, hij, hjn, rfl, rfl, HLo, HHi, HW⟩ := hrel
    by_cases hlt : i < j
    · have t1 : decide ((i : Int) < (j : Int)) = true := decide_eq_true (by omega)
      have hh1 : i ≤ (i + j) / 2 := by omega
      have hh2 : (i + j) / 2 < j := by omega
      have hq := half_i64 (i + j) (by omega)
      generalize hhd : (i + j) / 2 = h at hh1 hh2 hq
      have HQ := Lib.hid hq
      clear hhd hq
      go_upto_region 4 with fail
      refine plain_ (fun wq => Below wr.heap.size wr wq) (fun _ => True) reg_55_4 rfl inv0 (fun _ _ _ _ => trivial) (Below.refl _ _) trivial ?_
      refine w_move (.inl rfl) (fun vs w hK => ⟨wants_none rfl, rho_out rfl rfl⟩) ?_
      refine w_move (.inl rfl) (fun vs w hK => ⟨wants_none rfl, rho_out rfl rfl⟩) ?_
      refine w_val [(18, _), (19, _)] (_) (fun vs w hK => ⟨wants_none rfl, rho_in rfl (fv (hK 0 (memE rfl))), rho_in rfl (fv (hK 1 (memE rfl))), trivial⟩) rfl (fun wq hI => by exact run_int_add (c := ((i + j : Nat) : Int)) rfl rfl rfl (by rw [i64_id (by omega) (by omega)]; omega)) ?_
      refine w_val [(20, _)] (_) (fun vs w hK => ⟨wants_none rfl, rho_in rfl (fv (hK 2 (memE rfl))), trivial⟩) rfl (fun wq hI => by exact op_conv_int (k := .i64) (k2 := .u64) rfl Try.underlying3 Try.underlying78 rfl (u64_nat _ (by omega))) ?_
      refine w_val [(21, _)] (_) (fun vs w hK => ⟨wants_none rfl, rho_in rfl (fv (hK 3 (memE rfl))), trivial⟩) rfl (fun wq hI => by exact op_shr (k := .u64) rfl rfl rfl (by decide) HQ.out) ?_
      refine w_val [(22, _)] (_) (fun vs w hK => ⟨wants_none rfl, rho_in rfl (fv (hK 4 (memE rfl))), trivial⟩) rfl (fun wq hI => by exact op_conv_int (k := .u64) (k2 := .i64) rfl Try.underlying78 Try.underlying3 rfl (i64_id (by omega) (by omega))) ?_
      refine w_move (.inr rfl) (fun vs w hK => ⟨wants_none rfl, rho_in rfl (fv (hK 5 (memE rfl)))⟩) ?_
      refine w_end rfl rfl rfl (fun vs wq hI hF => ?_)
      simp only [List.reverse_cons, List.reverse_nil, List.nil_append, List.cons_append, finL_val, finL_of, finL_any, finL_app, finL_new, finL_gr, finL_row, finL_box, finL_nil, Act.put, List.setIfInBounds_toArray, List.set_cons_zero, List.set_cons_succ, Nat.reduceAdd]
      have HW1 := Lib.hid (below_then HW.out HW.out.size hI)
      clear hF HQ hI HW
      obtain ⟨w1, rfl⟩ : ∃ w1 : World, w1 = wq := ⟨_, rfl⟩
      have hhn : h < n := by omega
      obtain ⟨y, hp⟩ : ∃ y : Int, xs[h]? = some y := ⟨_, List.getElem?_eq_getElem (by rw [HL.out]; exact hhn)⟩
      obtain ⟨ad, rfl, hc⟩ := (sts_below HR.out HW1.out).row (by omega)
      have hcell := hc h _ hp 0 _ rfl
      rw [Addr.add_add, Nat.add_zero] at hcell
      have HS1 := Lib.hid (HS.out y w1 (List.mem_of_getElem? hp))
      have HP := Lib.hid hp
      clear hc hp
      go_wp2_with (first
        | (refine wpList_index_st rfl 34 _ _ rfl stI rfl rfl rfl hhn ?_)
        | fail)
      refine HS1.out.mono ?_
      rintro e w2 ⟨rfl, hb2⟩
      have HW2 := Lib.hid (below_then HW1.out HW1.out.size hb2)
      clear hb2 HS1 HW1 hcell
      obtain ⟨D, hD⟩ : ∃ D, decide (ordI y x < 0) = D := ⟨_, rfl⟩
      have HD := Lib.hid hD
      obtain ⟨O, hO⟩ : ∃ O, ordI y x = O := ⟨_, rfl⟩
      rw [hO] at hD ⊢
      clear hO
      cases D with
      | true =>
        have HL2 : Hid (∀ (q : Nat) (y : Int), q < h + 1 → xs[q]? = some y → ordI y x < 0) := Lib.hid fun q z hq hz => HM.out q h z y (by omega) hz HP.out (of_decide_eq_true HD.out)
        clear HLo HP HD
        go_wp2_with fail
        go_round
        case rel => exact ⟨h + 1, j, by omega, by omega, by go_num, rfl, HL2, HHi, HW2⟩
        case measure => simp [intOf]; omega
      | false =>
        have HH2 : Hid (∀ y : Int, xs[h]? = some y → 0 ≤ ordI y x) := Lib.hid fun z hz => by
          rw [HP.out] at hz
          injection hz with hz
          subst hz
          have := of_decide_eq_false HD.out
          omega
        clear HHi HP HD
        go_wp2_with fail
        go_round
        case rel => exact ⟨i, h, by omega, by omega, rfl, rfl, HLo, HH2, HW2⟩
        case measure => simp [intOf]; omega
    · obtain rfl : i = j := by omega
      have t1 : decide ((i : Int) < (i : Int)) = false := by simp
      have hpos : i = PO := (pos_of ordI (by rw [HL.out]; omega) HLo.out (fun y hy => by have := HHi.out y hy; omega)).symm.trans HPO.out
      subst hpos
      have HT : Hid (T = (decide (((i : Nat) : Int) < (n : Int)) && (ordI (xs.getD i default) x == 0))) := Lib.hid (by
        rw [← HTT.out]
        unfold hit
        rw [HPO.out]
        rcases Nat.lt_or_ge i n with g | g
        · have hl : i < xs.length := by rw [HL.out]; exact g
          rw [List.getElem?_eq_getElem hl, decide_eq_true (by omega), Bool.true_and, List.getD_eq_getElem?_getD, List.getElem?_eq_getElem hl]
          rfl
        · rw [List.getElem?_eq_none (by rw [HL.out]; exact g), decide_eq_false (by omega), Bool.false_and])
      clear HLo HHi HM HTT HPO
      go_upto_region 8 with fail
      refine plain_ (fun wq => Below wr.heap.size wr wq) (fun _ => True) reg_55_8 rfl inv0 (fun _ _ _ _ => trivial) (Below.refl _ _) trivial ?_
      refine w_move (.inl rfl) (fun vs w hK => ⟨wants_none rfl, rho_out rfl rfl⟩) ?_
      refine w_move (.inl rfl) (fun vs w hK => ⟨wants_none rfl, rho_out rfl rfl⟩) ?_
      refine w_move (.inl rfl) (fun vs w hK => ⟨wants_none rfl, rho_out rfl rfl⟩) ?_
      refine w_val [(36, _), (37, _)] (_) (fun vs w hK => ⟨wants_none rfl, rho_in rfl (fv (hK 1 (memE rfl))), rho_in rfl (fv (hK 2 (memE rfl))), trivial⟩) rfl (fun wq hI => by exact run_int_lss rfl rfl rfl rfl) ?_
      refine w_move (.inl rfl) (fun vs w hK => ⟨wants_none rfl, rho_in rfl (fv (hK 3 (memE rfl)))⟩) ?_
      refine w_moveG (.inl rfl) (fun vs w hK => wantsT rfl (fv (hK 4 (memE rfl)))) (fun hG vs w hK => (rho_out rfl rfl)) ?_
      refine w_moveG (.inl rfl) (fun vs w hK => wantsT rfl (fv (hK 4 (memE rfl)))) (fun hG vs w hK => (rho_out rfl rfl)) ?_
      refine w_moveG (.inl rfl) (fun vs w hK => wantsT rfl (fv (hK 4 (memE rfl)))) (fun hG vs w hK => (rho_out rfl rfl)) ?_
      refine w_valG [(41, _), (42, _)] (.pointer (A.map (·.add (i * kI)))) (fun vs w hK => wantsT rfl (fv (hK 4 (memE rfl)))) (fun hG vs w hK => ⟨(rho_in rfl (fvg (hK 6 (memE rfl)) hG)), (rho_in rfl (fvg (hK 7 (memE rfl)) hG)), trivial⟩) rfl (fun hG wq hI => by (have hlt := of_decide_eq_true hG; obtain ⟨ad, e, _⟩ := HR.out.row (by omega); subst e; exact op_index_st stI rfl rfl rfl rfl (by omega))) ?_
      refine w_valG [(43, _)] (.int .i64 (xs.getD i default)) (fun vs w hK => wantsT rfl (fv (hK 4 (memE rfl)))) (fun hG vs w hK => ⟨(rho_in rfl (fvg (hK 8 (memE rfl)) hG)), trivial⟩) rfl (fun hG wq hI => by (have hlt := of_decide_eq_true hG; obtain ⟨ad, e, hc⟩ := (sts_below HR.out (below_then HW.out HW.out.size hI)).row (by omega); subst e; have h := hc i (xs.getD i default) (by rw [List.getD_eq_getElem?_getD, List.getElem?_eq_getElem (by rw [HL.out]; omega)]; rfl) 0 _ rfl; rw [Addr.add_add, Nat.add_zero] at h; exact run_load_cell rfl rfl rfl Try.underlying3 rfl h)) ?_
      refine w_moveG (.inl rfl) (fun vs w hK => wantsT rfl (fv (hK 4 (memE rfl)))) (fun hG vs w hK => (rho_out rfl rfl)) ?_
      refine w_callvG [(40, _), (44, _), (45, _)] _ _ (by decide) (fun vs w hK => wantsT rfl (fv (hK 4 (memE rfl)))) (fun hG vs w hK => ⟨(rho_in rfl (fvg (hK 5 (memE rfl)) hG)), (rho_in rfl (fvg (hK 9 (memE rfl)) hG)), (rho_in rfl (fvg (hK 10 (memE rfl)) hG)), trivial⟩) rfl rfl rfl Try.func25 (by kernel_rfl) rfl (fun hG wq hI => HS.out (xs.getD i default) wq (by have hlt := of_decide_eq_true hG; rw [List.getD_eq_getElem?_getD, List.getElem?_eq_getElem (by rw [HL.out]; omega)]; exact List.getElem_mem _)) (margsC rfl) ?_
      refine w_valG [(46, _)] (_) (fun vs w hK => wantsT rfl (fv (hK 4 (memE rfl)))) (fun hG vs w hK => ⟨(rho_in rfl (fvg (hK 11 (memE rfl)) hG)), trivial⟩) rfl (fun hG wq hI => by exact run_int_eql rfl rfl rfl rfl) ?_
      refine w_and rfl (fun vs w hK => wants_none rfl) (fun vs w hK => (rho_in rfl (fv (hK 4 (memE rfl))))) (fun hB vs w hK => (rho_in rfl (fvg (hK 12 (memE rfl)) hB))) ?_
      refine w_as (c' := .bool T) (congrArg Value.bool HT.out.symm) ?_
      refine w_move (.inr rfl) (fun vs w hK => ⟨wants_none rfl, rho_in rfl (fv (hK 0 (memE rfl)))⟩) ?_
      refine w_move (.inr rfl) (fun vs w hK => ⟨wants_none rfl, rho_in rfl (fv (hK 13 (memE rfl)))⟩) ?_
      refine w_endM [false, false, false, false, false, false, false, false, false, false, false, false, false, false, true, true] rfl rfl rfl (fun vs wq hI hF => ?_)
      simp only [List.reverse_cons, List.reverse_nil, List.nil_append, List.cons_append, finL_val, finL_of, finL_any, finL_app, finL_new, finL_gr, finL_row, finL_box, finL_nil, Act.put, List.setIfInBounds_toArray, List.set_cons_zero, List.set_cons_succ, Nat.reduceAdd, maskF, finL_imp, Bool.not_false, Bool.not_true, Bool.true_and, Bool.false_and]
      have HW2 := Lib.hid (below_then HW.out HW.out.size hI)
      clear hI hF
      go_wp2_with fail
      go_ret2
      exact ⟨rfl, HW2.out⟩
end Go.Proofs.Ytnkeijdpjcclcaa.Mem

