/- The walk of the law KeyOuters. -/
import Derived.Test.YtgnicgcdhldmmaaKeyE
import Derived.Test.YtgnicgcdhldmmaaKeyG
import Derived.Test.YtgnicgcdhldmmaaKeyJ
namespace Go.Proofs.Ytgnicgcdhldmmaa.Key
set_option linter.unusedVariables false
set_option linter.unusedSimpArgs false
open Go.Proofs.Ytgnicgcdhldmmaa.Kit Go.Proofs.Ytgnicgcdhldmmaa.Num Go.RowKit Go.Proofs.YtgnicgcdhldmmaaW.PrintWords Go.Proofs.YtgnicgcdhldmmaaW.PrintLast Go.Proofs.YtgnicgcdhldmmaaW.PrintMore NumPure
theorem told_facts {s : ByteArray} {Y : Ent} {E : Nat} (h : told (outer (numsOf s)) = (Y, E)) (hs : s.size ≤ 300) : Y.ok ∧ Y.key.size ≤ 300 ∧ ((E = 2 ∧ Y = Ent.zero ∧ rightL (numsOf s) = false) ∨ (E = 0 ∧ rightL (numsOf s) = true ∧ Y.check = 0 ∧ Y.inner = s)) := by
  cases ho : outer (numsOf s) with
  | none =>
    rw [ho] at h
    cases h
    refine ⟨⟨by show 0 < _; omega, by show 0 ≤ _; omega, by show 0 ≤ _; omega⟩, by show 0 ≤ _; omega, .inl ⟨rfl, rfl, ?_⟩⟩
    cases hr : rightL (numsOf s) with
    | false => rfl
    | true =>
      obtain ⟨x, hx⟩ := some_of_rightL (numsOf_isByte s) hr
      rw [ho] at hx
      cases hx
  | some x =>
    rw [ho] at h
    cases h
    obtain ⟨h1, h2⟩ := inner_of_outer ho
    obtain ⟨k1, k2, k3, k4, k5⟩ := check_zero.1 h2
    exact ⟨⟨by omega, by omega, by omega⟩, by omega, .inr ⟨rfl, rightL_of_some (numsOf_isByte s) ho, h2, h1⟩⟩
theorem reg_5_8 : RegOk (opsOf Try.f5 8) [[], [], [1], [1, 2], [], [4], [4, 5], [0, 1, 2, 3, 4, 5, 6], [0, 1, 2, 3, 4, 5, 6, 7], [0, 1, 2, 3, 4, 5, 6, 7, 8], [0, 1, 2, 3, 4, 5, 6, 7, 8, 9], [0, 1, 2, 3, 4, 5, 6, 7, 8, 9], [0, 1, 2, 3, 4, 5, 6, 7, 8, 9, 11], [0, 1, 2, 3, 4, 5, 6, 7, 8, 9, 11, 12], [0, 1, 2, 3, 4, 5, 6, 7, 8, 9, 10, 11, 12, 13], [0, 1, 2, 3, 4, 5, 6, 7, 8, 9, 10, 11, 12, 13, 14], [0, 1, 2, 3, 4, 5, 6, 7, 8, 9, 10, 11, 12, 13, 14, 15], [0, 1, 2, 3, 4, 5, 6, 7, 8, 9, 10, 11, 12, 13, 14, 15, 16]] [] [some 22, some 23, some 24, some 25, some 26, some 27, some 28, some 29, some 30, some 31, some 32, some 33, some 34, some 35, some 36, some 37, some 38, some 5] := regOk (by kernel_rfl)
theorem reg_5_11 : RegOk (opsOf Try.f5 11) [[], [0], [0, 1], [0, 1], [0, 1, 3], [0, 1, 3, 4], [0, 1, 2, 3, 4, 5], [0, 1, 2, 3, 4, 5, 6]] [] [some 39, some 40, some 41, some 42, some 43, some 44, some 45, some 46] := regOk (by kernel_rfl)
theorem reg_5_16 : RegOk (opsOf Try.f5 16) [[], [], [1], [1, 2], [0, 1, 2, 3], [0, 1, 2, 3, 4], [0, 1, 2, 3, 4, 5], [0, 1, 2, 3, 4, 5], [0, 1, 2, 3, 4, 5, 6, 7], [0, 1, 2, 3, 4, 5, 6, 7, 8], [0, 1, 2, 3, 4, 5, 6, 7, 8, 9], [0, 1, 2, 3, 4, 5, 6, 7, 8, 9, 10]] [] [some 57, some 58, some 59, some 60, some 61, some 62, some 63, some 64, some 65, some 66, some 67, some 5] := regOk (by kernel_rfl)
theorem reg_5_17 : RegOk (opsOf Try.f5 17) [[], [0], [0, 1], [0, 1, 2], [0, 1, 2, 3], [0, 1, 2, 3, 4]] [] [some 68, some 69, some 70, some 71, some 72, some 5] := regOk (by kernel_rfl)
theorem reg_5_19 : RegOk (opsOf Try.f5 19) [[], [0], [0, 1], [0, 1, 2], [0, 1, 2], [0, 1, 2, 3, 4], [0, 1, 2, 3, 4, 5], [0, 1, 2, 3, 4, 5, 6], [0, 1, 2, 3, 4, 5, 6, 7], [0, 1, 2, 3, 4, 5, 6, 7, 8], [0, 1, 2, 3, 4, 5, 6, 7, 8, 9], [0, 1, 2, 3, 4, 5, 6, 7, 8, 9, 10]] [] [some 75, some 76, some 77, some 78, some 79, some 80, some 81, some 82, some 83, some 84, some 85, some 2] := regOk (by kernel_rfl)
theorem reg_5_20 : RegOk (opsOf Try.f5 20) [[], [0], [0, 1], [0, 1, 2], [0, 1, 2, 3], [0, 1, 2, 3, 4], [0, 1, 2, 3, 4, 5], [0, 1, 2, 3, 4, 5, 6], [0, 1, 2, 3, 4, 5, 6, 7], [0, 1, 2, 3, 4, 5, 6], [0, 1, 2, 3, 4, 5, 6, 7, 8, 9], [0, 1, 2, 3, 4, 5, 6, 7, 8, 9, 10], [0, 1, 2, 3, 4, 5, 6, 7, 8, 9, 10, 11]] [] [some 86, some 87, some 88, some 89, some 90, some 91, some 92, some 93, some 94, some 95, some 96, some 97, some 2] := regOk (by kernel_rfl)
set_option maxRecDepth 20000 in
set_option maxHeartbeats 80000000 in
theorem outers_any (s : ByteArray) (w : World) (hsw : s.size ≤ 140737488351232) : Calls Try.prog 5 #[.string s] w fun e w' => e = .returned (.bool true) ∧ Below w.heap.size w w' := by
  by_cases hbig : 300 < s.size
  · have t1 : decide ((300 : Int) < (s.size : Int)) = true := decide_eq_true (by omega)
    go_enter Try.func5, Try.ntmps5
    go_wp2_with fail
    refine (head_any _).mono ?_
    rintro e w1 ⟨rfl, hb1⟩
    have HW1 := Lib.hid hb1
    clear hb1
    go_wp2_with fail
    go_ret
    exact ⟨rfl, HW1.out⟩
  have t1 : decide ((300 : Int) < (s.size : Int)) = false := decide_eq_false (by omega)
  obtain ⟨Y, E, hto⟩ : ∃ Y E, told (outer (numsOf s)) = (Y, E) := ⟨_, _, rfl⟩
  obtain ⟨hYo, hYk, hYE⟩ := told_facts hto (by omega)
  have CO := Lib.hid (fun wq => outer_any s (by omega) wq)
  rw [hto] at CO
  have CKY := Lib.hid (fun wq => check_any Y hYo wq)
  have CIY := Lib.hid (fun wq => inner_any Y hYo (by omega) wq)
  have hll := numsOf_length s
  have hbt := numsOf_isByte s
  obtain ⟨n, hn⟩ : ∃ n, n = s.size := ⟨_, rfl⟩
  obtain ⟨L, hL⟩ : ∃ L, L = numsOf s := ⟨_, rfl⟩
  rw [← hL, ← hn] at hll
  rw [← hL] at hbt hYE
  have hn3 : n ≤ 300 := by omega
  have HYE := Lib.hid hYE
  have HLL := Lib.hid hll
  have HL := Lib.hid hL
  have HN := Lib.hid hn
  have HBT := Lib.hid hbt
  clear hbig hto hYo hYk hYE hll hbt hL hn hsw
  obtain ⟨yk, ys, yd, yv⟩ := Y
  have CO2 : Hid (∀ wq, Calls Try.prog 14 #[.string s] wq fun e w' => e = .returned (.tuple #[.agg #[.string yk, .int .u64 ys, .bool yd, .string yv], .int .i64 E]) ∧ Below wq.heap.size wq w') := Lib.hid CO.out
  clear CO
  go_enter Try.func5, Try.ntmps5
  go_wp2_with fail
  refine (head_any _).mono ?_
  rintro e w1 ⟨rfl, hb1⟩
  have HW1 := Lib.hid hb1
  clear hb1
  go_wp2_with fail
  refine (CO2.out _).mono ?_
  rintro e w2 ⟨rfl, hb2⟩
  have HW2 := Lib.hid (below_then HW1.out HW1.out.size hb2)
  clear hb2 CO2
  go_upto_region 6 with fail
  have hx3 : (w2.alloc (.cells #[.string yk, .int .u64 ys, .bool yd, .string yv] 24)).heap[w2.heap.size]? = some (.cells (Ent.mk yk ys yd yv).cells.toArray 24) := heap_alloc_new w2 _
  have hb3 : Below w2.heap.size w2 (w2.alloc (.cells #[.string yk, .int .u64 ys, .bool yd, .string yv] 24)) := below_alloc (Below.refl _ _) _
  have HW3 := Lib.hid (below_then HW2.out HW2.out.size hb3)
  have HX3 := Lib.hid hx3
  generalize w2.alloc (.cells #[.string yk, .int .u64 ys, .bool yd, .string yv] 24) = w3 at HW3 HX3 ⊢
  clear hx3 hb3 HW2
  by_cases h11 : 11 ≤ n
  · have t2 : (11 : Int) ≤ (s.size : Int) := by have := HN.out; omega
    obtain ⟨T, hT⟩ : ∃ T, tailOk L = T := ⟨_, rfl⟩
    have HTT : Hid ((decide (s.extract (n - 10) (n - 8) = ⟨#[0, 1]⟩) && decide (254 ≤ (numsOf s).getD (n - 8) 0)) = T) := Lib.hid (by
      rw [← hT]
      unfold tailOk
      rw [← HL.out, HLL.out]
      congr 1
      refine decide_eq_decide.2 ?_
      rw [numsOf_eq, numsOf_extract, show numsOf ⟨#[0, 1]⟩ = [0, 1] by rw [numsOf_data]; rfl, show n - 8 - (n - 10) = 2 by omega, ← HL.out])
    go_upto_region 8 with fail
    refine plain_ (fun wq => Below w3.heap.size w3 wq) (fun _ => True) reg_5_8 rfl inv0 (fun _ _ _ _ => trivial) (Below.refl _ _) trivial ?_
    refine w_move (.inl rfl) (fun vs w hK => ⟨wants_none rfl, rho_out rfl rfl⟩) ?_
    refine w_move (.inl rfl) (fun vs w hK => ⟨wants_none rfl, rho_out rfl rfl⟩) ?_
    refine w_val [(23, _)] (_) (fun vs w hK => ⟨wants_none rfl, rho_in rfl (fv (hK 1 (by decide))), trivial⟩) rfl (fun wq hI => by exact run_len_str rfl Try.underlying9 rfl (n := (n : Int)) (by rw [HN.out])) ?_
    refine w_val [(24, _)] (_) (fun vs w hK => ⟨wants_none rfl, rho_in rfl (fv (hK 2 (by decide))), trivial⟩) rfl (fun wq hI => by exact run_int_sub rfl rfl rfl (c := ((n - 10 : Nat) : Int)) (by rw [i64_id (by omega) (by omega)]; omega)) ?_
    refine w_move (.inl rfl) (fun vs w hK => ⟨wants_none rfl, rho_out rfl rfl⟩) ?_
    refine w_val [(26, _)] (_) (fun vs w hK => ⟨wants_none rfl, rho_in rfl (fv (hK 4 (by decide))), trivial⟩) rfl (fun wq hI => by exact run_len_str rfl Try.underlying9 rfl (n := (n : Int)) (by rw [HN.out])) ?_
    refine w_val [(27, _)] (_) (fun vs w hK => ⟨wants_none rfl, rho_in rfl (fv (hK 5 (by decide))), trivial⟩) rfl (fun wq hI => by exact run_int_sub rfl rfl rfl (c := ((n - 8 : Nat) : Int)) (by rw [i64_id (by omega) (by omega)]; omega)) ?_
    refine w_val [(22, _), (25, _), (28, _)] (_) (fun vs w hK => ⟨wants_none rfl, rho_in rfl (fv (hK 0 (by decide))), rho_in rfl (fv (hK 3 (by decide))), rho_in rfl (fv (hK 6 (by decide))), trivial⟩) rfl (fun wq hI => by exact op_cut_mid (a := n - 10) (b := n - 8) rfl Try.underlying9 rfl rfl rfl rfl rfl (by omega) (by rw [← HN.out]; omega) rfl) ?_
    refine w_val [(29, _)] (_) (fun vs w hK => ⟨wants_none rfl, rho_in rfl (fv (hK 7 (by decide))), trivial⟩) rfl (fun wq hI => by exact op_str_eq rfl rfl rfl rfl) ?_
    refine w_move (.inl rfl) (fun vs w hK => ⟨wants_none rfl, rho_in rfl (fv (hK 8 (by decide)))⟩) ?_
    refine w_moveG (.inl rfl) (fun vs w hK => wantsT rfl (fv (hK 9 (by decide)))) (fun hG vs w hK => (rho_out rfl rfl)) ?_
    refine w_moveG (.inl rfl) (fun vs w hK => wantsT rfl (fv (hK 9 (by decide)))) (fun hG vs w hK => (rho_out rfl rfl)) ?_
    refine w_valG [(33, _)] (_) (fun vs w hK => wantsT rfl (fv (hK 9 (by decide)))) (fun hG vs w hK => ⟨(rho_in rfl (fvg (hK 11 (by decide)) hG)), trivial⟩) rfl (fun hG wq hI => by exact run_len_str rfl Try.underlying9 rfl (n := (n : Int)) (by rw [HN.out])) ?_
    refine w_valG [(34, _)] (_) (fun vs w hK => wantsT rfl (fv (hK 9 (by decide)))) (fun hG vs w hK => ⟨(rho_in rfl (fvg (hK 12 (by decide)) hG)), trivial⟩) rfl (fun hG wq hI => by exact run_int_sub rfl rfl rfl (c := ((n - 8 : Nat) : Int)) (by rw [i64_id (by omega) (by omega)]; omega)) ?_
    refine w_valG [(32, _), (35, _)] (_) (fun vs w hK => wantsT rfl (fv (hK 9 (by decide)))) (fun hG vs w hK => ⟨(rho_in rfl (fvg (hK 10 (by decide)) hG)), (rho_in rfl (fvg (hK 13 (by decide)) hG)), trivial⟩) rfl (fun hG wq hI => by exact op_index_str (i := n - 8) rfl Try.underlying9 rfl rfl rfl (by rw [← HN.out]; omega) rfl) ?_
    refine w_valG [(36, _)] (_) (fun vs w hK => wantsT rfl (fv (hK 9 (by decide)))) (fun hG vs w hK => ⟨(rho_in rfl (fvg (hK 14 (by decide)) hG)), trivial⟩) rfl (fun hG wq hI => by exact run_int_geq rfl rfl rfl rfl) ?_
    refine w_and rfl (fun vs w hK => wants_none rfl) (fun vs w hK => (rho_in rfl (fv (hK 9 (by decide))))) (fun hB vs w hK => (rho_in rfl (fvg (hK 15 (by decide)) hB))) ?_
    refine w_as (c' := .bool T) (congrArg Value.bool HTT.out) ?_
    refine w_move (.inr rfl) (fun vs w hK => ⟨wants_none rfl, rho_in rfl (fv (hK 16 (by decide)))⟩) ?_
    refine w_end rfl rfl rfl (fun vs wq hI hF => ?_)
    simp only [List.reverse_cons, List.reverse_nil, List.nil_append, List.cons_append, finL_val, finL_of, finL_any, finL_app, finL_new, finL_gr, finL_row, finL_box, finL_nil, Act.put, List.setIfInBounds_toArray, List.set_cons_zero, List.set_cons_succ, Nat.reduceAdd]
    have HX4 := Lib.hid (box_below HX3.out hI)
    have HW4 := Lib.hid (below_then HW3.out HW3.out.size hI)
    clear hI hF HX3 HW3 HTT
    obtain ⟨w4, rfl⟩ : ∃ w4 : World, w4 = wq := ⟨_, rfl⟩
    have HR1 : Hid (T = true → tailOk L = true ∧ 11 ≤ n) := Lib.hid (fun h => ⟨by rw [hT, h], h11⟩)
    have HR0 : Hid (T = false → rightL L = false) := Lib.hid (fun h => by unfold rightL; rw [hT, h]; simp)
    clear hT h11 t2
    go_wp2_with fail
    go_loopw [5, 6, 7] (fun r c i wr => ∃ (r' : Bool) (c' i' : Nat), r = .bool r' ∧ c = .int .i64 c' ∧ i = .int .i64 i' ∧ i' ≤ n + 1 ∧ c' ≤ i' ∧ Hid (r' = true → tailOk L = true ∧ 11 ≤ n ∧ i' ≤ n - 10 ∧ par (L.take (n - 10)) = more c' (par ((L.take (n - 10)).drop i'))) ∧ Hid (r' = false → rightL L = false) ∧ Hid (Below w4.heap.size w4 wr)) (fun _ _ i _ => n + 3 - (intOf i).toNat)
    case atStart => exact ⟨T, 0, 0, rfl, rfl, rfl, by omega, Nat.le_refl _, Lib.hid (fun h => ⟨(HR1.out h).1, (HR1.out h).2, Nat.zero_le _, by rw [more_zero, List.drop_zero]⟩), HR0, Lib.hid (Below.refl _ _)⟩
    case round =>
      obtain ⟨r', c', i', rfl, rfl, rfl, hi1, hc1, HP, HQ, HB⟩ := hrel
      have HXr := Lib.hid (box_below HX4.out HB.out)
      have HWr := Lib.hid (below_then HW4.out HW4.out.size HB.out)
      cases r'
      · have HRR : Hid (rightL L = false) := Lib.hid (HQ.out rfl)
        clear HP HQ
        go_upto_region 18 with fail
        rcases HYE.out with ⟨hE, hYz, hrf⟩ | ⟨hE, hrt, hck, hin⟩
        · subst hE
          have hzero : (Ent.mk yk ys yd yv).eqb Ent.zero = true := by rw [hYz]; exact Ent.eqb_self _
          have HZ := Lib.hid hzero
          have hr2 : false = false := by rw [← HRR.out, hrf]
          have HR2 := Lib.hid hr2
          clear hYz hrf hzero hr2 HYE
          go_upto_region 19 with fail
          refine plain_ (fun wq => Below wr.heap.size wr wq) (fun _ => True) reg_5_19 rfl inv0 (fun _ _ _ _ => trivial) (Below.refl _ _) trivial ?_
          refine w_move (.inl rfl) (fun vs w hK => ⟨wants_none rfl, rho_out rfl rfl⟩) ?_
          refine w_val [(75, _)] (_) (fun vs w hK => ⟨wants_none rfl, rho_in rfl (fv (hK 0 (by decide))), trivial⟩) rfl (fun wq hI => by exact run_int_eql rfl rfl rfl rfl) ?_
          refine w_move (.inl rfl) (fun vs w hK => ⟨wants_none rfl, rho_in rfl (fv (hK 1 (by decide)))⟩) ?_
          refine w_valG [(3, _)] (_) (fun vs w hK => wantsT rfl (fv (hK 2 (by decide)))) (fun hG vs w hK => ⟨(rho_out rfl rfl), trivial⟩) rfl (fun hG wq hI => by exact run_load_op rfl rfl (load_ent (box_below HXr.out hI))) ?_
          refine w_valG [] (Ent.zero.ag) (fun vs w hK => wantsT rfl (fv (hK 2 (by decide)))) (fun hG vs w hK => trivial) rfl (fun hG wq hI => by simp only [execOp, Option.map_some, Option.map_none, lk_tmp, lk_const, lkT_cons, ↓reduceIte, Nat.reduceEqDiff]; go_simp; (first | done | rfl)) ?_
          refine w_valG [(78, _), (79, _)] (_) (fun vs w hK => wantsT rfl (fv (hK 2 (by decide)))) (fun hG vs w hK => ⟨(rho_in rfl (fvg (hK 3 (by decide)) hG)), (rho_in rfl (fvg (hK 4 (by decide)) hG)), trivial⟩) rfl (fun hG wq hI => by exact op_ent_eql rfl rfl rfl HZ.out) ?_
          refine w_and rfl (fun vs w hK => wants_none rfl) (fun vs w hK => (rho_in rfl (fv (hK 2 (by decide))))) (fun hB vs w hK => (rho_in rfl (fvg (hK 5 (by decide)) hB))) ?_
          refine w_move (.inl rfl) (fun vs w hK => ⟨wants_none rfl, rho_in rfl (fv (hK 6 (by decide)))⟩) ?_
          refine w_moveG (.inl rfl) (fun vs w hK => wantsT rfl (fv (hK 7 (by decide)))) (fun hG vs w hK => (rho_out rfl rfl)) ?_
          refine w_valG [(83, _)] (_) (fun vs w hK => wantsT rfl (fv (hK 7 (by decide)))) (fun hG vs w hK => ⟨(rho_in rfl (fvg (hK 8 (by decide)) hG)), trivial⟩) rfl (fun hG wq hI => by exact op_not rfl rfl rfl) ?_
          refine w_and rfl (fun vs w hK => wants_none rfl) (fun vs w hK => (rho_in rfl (fv (hK 7 (by decide))))) (fun hB vs w hK => (rho_in rfl (fvg (hK 9 (by decide)) hB))) ?_
          refine w_as (c' := .bool true) (by rw [HR2.out]; rfl) ?_
          refine w_move (.inr rfl) (fun vs w hK => ⟨wants_none rfl, rho_in rfl (fv (hK 10 (by decide)))⟩) ?_
          refine w_end rfl rfl rfl (fun vs wq hI hF => ?_)
          simp only [List.reverse_cons, List.reverse_nil, List.nil_append, List.cons_append, finL_val, finL_of, finL_any, finL_app, finL_new, finL_gr, finL_row, finL_box, finL_nil, Act.put, List.setIfInBounds_toArray, List.set_cons_zero, List.set_cons_succ, Nat.reduceAdd]
          have HW6 := Lib.hid (below_then HWr.out HWr.out.size hI)
          clear hI hF
          go_wp2_with fail
          go_ret
          exact ⟨rfl, HW6.out⟩
        · subst hE
          have hr2 : false = true := by rw [← HRR.out, hrt]
          have HR2 := Lib.hid hr2
          have HCK := Lib.hid hck
          have HIN := Lib.hid hin
          clear hrt hck hin hr2 HYE
          go_upto_region 20 with fail
          refine plain_ (fun wq => Below wr.heap.size wr wq) (fun _ => True) reg_5_20 rfl inv0 (fun _ _ _ _ => trivial) (Below.refl _ _) trivial ?_
          refine w_move (.inl rfl) (fun vs w hK => ⟨wants_none rfl, rho_out rfl rfl⟩) ?_
          refine w_move (.inl rfl) (fun vs w hK => ⟨wants_none rfl, rho_in rfl (fv (hK 0 (by decide)))⟩) ?_
          refine w_valG [(3, _)] (_) (fun vs w hK => wantsT rfl (fv (hK 1 (by decide)))) (fun hG vs w hK => ⟨(rho_out rfl rfl), trivial⟩) rfl (fun hG wq hI => by exact run_load_op rfl rfl (load_ent (box_below HXr.out hI))) ?_
          refine w_callG [(88, _)] _ _ (by decide) (fun vs w hK => wantsT rfl (fv (hK 1 (by decide)))) (fun hG vs w hK => ⟨(rho_in rfl (fvg (hK 2 (by decide)) hG)), trivial⟩) rfl rfl Try.func11 (by kernel_rfl) rfl (fun hG wq hI => CKY.out wq) (margs rfl) ?_
          refine w_valG [(89, _)] (_) (fun vs w hK => wantsT rfl (fv (hK 1 (by decide)))) (fun hG vs w hK => ⟨(rho_in rfl (fvg (hK 3 (by decide)) hG)), trivial⟩) rfl (fun hG wq hI => by exact run_int_eql rfl rfl rfl rfl) ?_
          refine w_and rfl (fun vs w hK => wants_none rfl) (fun vs w hK => (rho_in rfl (fv (hK 1 (by decide))))) (fun hB vs w hK => (rho_in rfl (fvg (hK 4 (by decide)) hB))) ?_
          refine w_move (.inl rfl) (fun vs w hK => ⟨wants_none rfl, rho_in rfl (fv (hK 5 (by decide)))⟩) ?_
          refine w_valG [(3, _)] (_) (fun vs w hK => wantsT rfl (fv (hK 6 (by decide)))) (fun hG vs w hK => ⟨(rho_out rfl rfl), trivial⟩) rfl (fun hG wq hI => by exact run_load_op rfl rfl (load_ent (box_below HXr.out hI))) ?_
          refine w_callG [(93, _)] _ _ (by decide) (fun vs w hK => wantsT rfl (fv (hK 6 (by decide)))) (fun hG vs w hK => ⟨(rho_in rfl (fvg (hK 7 (by decide)) hG)), trivial⟩) rfl rfl Try.func13 (by kernel_rfl) rfl (fun hG wq hI => CIY.out wq) (margs rfl) ?_
          refine w_moveG (.inl rfl) (fun vs w hK => wantsT rfl (fv (hK 6 (by decide)))) (fun hG vs w hK => (rho_out rfl rfl)) ?_
          refine w_valG [(94, _), (95, _)] (_) (fun vs w hK => wantsT rfl (fv (hK 6 (by decide)))) (fun hG vs w hK => ⟨(rho_in rfl (fvg (hK 8 (by decide)) hG)), (rho_in rfl (fvg (hK 9 (by decide)) hG)), trivial⟩) rfl (fun hG wq hI => by exact op_str_eq rfl rfl rfl rfl) ?_
          refine w_and rfl (fun vs w hK => wants_none rfl) (fun vs w hK => (rho_in rfl (fv (hK 6 (by decide))))) (fun hB vs w hK => (rho_in rfl (fvg (hK 10 (by decide)) hB))) ?_
          refine w_as (c' := .bool true) (by rw [HR2.out, HCK.out, HIN.out]; simp) ?_
          refine w_move (.inr rfl) (fun vs w hK => ⟨wants_none rfl, rho_in rfl (fv (hK 11 (by decide)))⟩) ?_
          refine w_end rfl rfl rfl (fun vs wq hI hF => ?_)
          simp only [List.reverse_cons, List.reverse_nil, List.nil_append, List.cons_append, finL_val, finL_of, finL_any, finL_app, finL_new, finL_gr, finL_row, finL_box, finL_nil, Act.put, List.setIfInBounds_toArray, List.set_cons_zero, List.set_cons_succ, Nat.reduceAdd]
          have HW6 := Lib.hid (below_then HWr.out HWr.out.size hI)
          clear hI hF
          go_wp2_with fail
          go_ret
          exact ⟨rfl, HW6.out⟩
      · obtain ⟨hT1, h11, hi2, hpar⟩ := HP.out rfl
        have HPA := Lib.hid hpar
        have HT1 := Lib.hid hT1
        clear hpar hT1 HP HQ
        by_cases hlt : i' < n - 10
        · have hin : i' < n := by omega
          have hks : i' < s.size := by rw [← HN.out]; exact hin
          obtain ⟨c, hcc⟩ : ∃ c : Nat, (s[i']'hks).toNat = c := ⟨_, rfl⟩
          have hc2 : L.getD i' 0 = (c : Int) := by rw [HL.out, ← at_str s i' hks, hcc]
          have hD : (L.take (n - 10)).drop i' = (c : Int) :: (L.take (n - 10)).drop (i' + 1) := by
            rw [List.drop_eq_getElem_cons (by rw [List.length_take, HLL.out]; omega)]
            rw [List.getD_eq_getElem?_getD, List.getElem?_eq_getElem (by rw [HLL.out]; exact hin), Option.getD_some] at hc2
            rw [List.getElem_take, hc2]
          have HD := Lib.hid hD
          clear hc2 hD
          have H11 : Hid ((true && decide ((i' : Int) < ((n - 10 : Nat) : Int))) = true) := Lib.hid (by rw [Bool.true_and]; exact decide_eq_true (by omega))
          go_upto_region 11 with fail
          refine plain_ (fun wq => Below wr.heap.size wr wq) (fun _ => True) reg_5_11 rfl inv0 (fun _ _ _ _ => trivial) (Below.refl _ _) trivial ?_
          refine w_move (.inl rfl) (fun vs w hK => ⟨wants_none rfl, rho_out rfl rfl⟩) ?_
          refine w_move (.inl rfl) (fun vs w hK => ⟨wants_none rfl, rho_in rfl (fv (hK 0 (by decide)))⟩) ?_
          refine w_moveG (.inl rfl) (fun vs w hK => wantsT rfl (fv (hK 1 (by decide)))) (fun hG vs w hK => (rho_out rfl rfl)) ?_
          refine w_moveG (.inl rfl) (fun vs w hK => wantsT rfl (fv (hK 1 (by decide)))) (fun hG vs w hK => (rho_out rfl rfl)) ?_
          refine w_valG [(42, _)] (_) (fun vs w hK => wantsT rfl (fv (hK 1 (by decide)))) (fun hG vs w hK => ⟨(rho_in rfl (fvg (hK 3 (by decide)) hG)), trivial⟩) rfl (fun hG wq hI => by exact run_len_str rfl Try.underlying9 rfl (n := (n : Int)) (by rw [HN.out])) ?_
          refine w_valG [(43, _)] (_) (fun vs w hK => wantsT rfl (fv (hK 1 (by decide)))) (fun hG vs w hK => ⟨(rho_in rfl (fvg (hK 4 (by decide)) hG)), trivial⟩) rfl (fun hG wq hI => by exact run_int_sub rfl rfl rfl (c := ((n - 10 : Nat) : Int)) (by rw [i64_id (by omega) (by omega)]; omega)) ?_
          refine w_valG [(41, _), (44, _)] (_) (fun vs w hK => wantsT rfl (fv (hK 1 (by decide)))) (fun hG vs w hK => ⟨(rho_in rfl (fvg (hK 2 (by decide)) hG)), (rho_in rfl (fvg (hK 5 (by decide)) hG)), trivial⟩) rfl (fun hG wq hI => by exact run_int_lss rfl rfl rfl rfl) ?_
          refine w_and rfl (fun vs w hK => wants_none rfl) (fun vs w hK => (rho_in rfl (fv (hK 1 (by decide))))) (fun hB vs w hK => (rho_in rfl (fvg (hK 6 (by decide)) hB))) ?_
          refine w_as (c' := .bool true) (congrArg Value.bool H11.out) ?_
          refine w_end rfl rfl rfl (fun vs wq hI hF => ?_)
          simp only [List.reverse_cons, List.reverse_nil, List.nil_append, List.cons_append, finL_val, finL_of, finL_any, finL_app, finL_new, finL_gr, finL_row, finL_box, finL_nil, Act.put, List.setIfInBounds_toArray, List.set_cons_zero, List.set_cons_succ, Nat.reduceAdd]
          have HB5 := Lib.hid (below_then HB.out HB.out.size hI)
          clear hI hF H11 HB HXr HWr
          obtain ⟨w5, rfl⟩ : ∃ w5 : World, w5 = wq := ⟨_, rfl⟩
          by_cases hz : c = 0
          · subst hz
            have t3 : (((0 : Nat) : Int) == 0) = true := rfl
            obtain ⟨b, hb⟩ : ∃ b, (decide (((i' + 1 : Nat) : Int) < ((n - 10 : Nat) : Int)) && (((numsOf s).getD (i' + 1) 0) == 255)) = b := ⟨_, rfl⟩
            have HQ1 : Hid (b = true → tailOk L = true ∧ 11 ≤ n ∧ i' + 2 ≤ n - 10 ∧ par (L.take (n - 10)) = more (c' + 1) (par ((L.take (n - 10)).drop (i' + 2)))) := Lib.hid (fun hbt => by
              rw [hbt, Bool.and_eq_true, decide_eq_true_eq, beq_iff_eq] at hb
              have hl1 : i' + 1 < n - 10 := by omega
              have hD2 : (L.take (n - 10)).drop (i' + 1) = 255 :: (L.take (n - 10)).drop (i' + 2) := by
                rw [List.drop_eq_getElem_cons (by rw [List.length_take, HLL.out]; omega)]
                have h2 := hb.2
                rw [← HL.out, List.getD_eq_getElem?_getD, List.getElem?_eq_getElem (by rw [HLL.out]; omega), Option.getD_some] at h2
                rw [List.getElem_take, h2]
              refine ⟨HT1.out, h11, by omega, ?_⟩
              rw [HPA.out, HD.out, hD2]
              show more c' (par (0 :: 255 :: (L.take (n - 10)).drop (i' + 2))) = _
              rw [par_esc0, more_succ])
            have HQ2 : Hid (b = false → rightL L = false) := Lib.hid (fun hbf => by
              have hpn : par (L.take (n - 10)) = none := by
                rw [HPA.out, HD.out]
                by_cases hl1 : i' + 1 < n - 10
                · have hD2 : (L.take (n - 10)).drop (i' + 1) = (L.getD (i' + 1) 0) :: (L.take (n - 10)).drop (i' + 2) := by
                    rw [List.drop_eq_getElem_cons (by rw [List.length_take, HLL.out]; omega), List.getElem_take, List.getD_eq_getElem?_getD, List.getElem?_eq_getElem (by rw [HLL.out]; omega), Option.getD_some]
                  rw [hD2]
                  show more c' (par (0 :: L.getD (i' + 1) 0 :: _)) = none
                  rw [par_bad]
                  · rfl
                  · intro e
                    rw [hbf, decide_eq_true (by omega), Bool.true_and, ← HL.out, e] at hb
                    simp at hb
                · rw [List.drop_eq_nil_of_le (by rw [List.length_take, HLL.out]; omega)]
                  show more c' (par [0]) = none
                  rw [par_zero]; rfl
              unfold rightL
              rw [HLL.out, hpn]
              simp [few])
            have HB16 := Lib.hid hb
            clear hb HPA HT1 HD
            go_upto_region 16 with fail
            refine plain_ (fun wq => Below w5.heap.size w5 wq) (fun _ => True) reg_5_16 rfl inv0 (fun _ _ _ _ => trivial) (Below.refl _ _) trivial ?_
            refine w_move (.inl rfl) (fun vs w hK => ⟨wants_none rfl, rho_out rfl rfl⟩) ?_
            refine w_move (.inl rfl) (fun vs w hK => ⟨wants_none rfl, rho_out rfl rfl⟩) ?_
            refine w_val [(58, _)] (_) (fun vs w hK => ⟨wants_none rfl, rho_in rfl (fv (hK 1 (by decide))), trivial⟩) rfl (fun wq hI => by exact run_len_str rfl Try.underlying9 rfl (n := (n : Int)) (by rw [HN.out])) ?_
            refine w_val [(59, _)] (_) (fun vs w hK => ⟨wants_none rfl, rho_in rfl (fv (hK 2 (by decide))), trivial⟩) rfl (fun wq hI => by exact run_int_sub rfl rfl rfl (c := ((n - 10 : Nat) : Int)) (by rw [i64_id (by omega) (by omega)]; omega)) ?_
            refine w_val [(57, _), (60, _)] (_) (fun vs w hK => ⟨wants_none rfl, rho_in rfl (fv (hK 0 (by decide))), rho_in rfl (fv (hK 3 (by decide))), trivial⟩) rfl (fun wq hI => by exact run_int_lss rfl rfl rfl (r := decide (((i' + 1 : Nat) : Int) < ((n - 10 : Nat) : Int))) (by congr 1)) ?_
            refine w_move (.inl rfl) (fun vs w hK => ⟨wants_none rfl, rho_in rfl (fv (hK 4 (by decide)))⟩) ?_
            refine w_moveG (.inl rfl) (fun vs w hK => wantsT rfl (fv (hK 5 (by decide)))) (fun hG vs w hK => (rho_out rfl rfl)) ?_
            refine w_moveG (.inl rfl) (fun vs w hK => wantsT rfl (fv (hK 5 (by decide)))) (fun hG vs w hK => (rho_out rfl rfl)) ?_
            refine w_valG [(63, _), (64, _)] (_) (fun vs w hK => wantsT rfl (fv (hK 5 (by decide)))) (fun hG vs w hK => ⟨(rho_in rfl (fvg (hK 6 (by decide)) hG)), (rho_in rfl (fvg (hK 7 (by decide)) hG)), trivial⟩) rfl (fun hG wq hI => by exact op_index_str (i := i' + 1) rfl Try.underlying9 rfl rfl (by omega) (by have := of_decide_eq_true hG; rw [← HN.out]; omega) rfl) ?_
            refine w_valG [(65, _)] (_) (fun vs w hK => wantsT rfl (fv (hK 5 (by decide)))) (fun hG vs w hK => ⟨(rho_in rfl (fvg (hK 8 (by decide)) hG)), trivial⟩) rfl (fun hG wq hI => by exact run_int_eql rfl rfl rfl rfl) ?_
            refine w_and rfl (fun vs w hK => wants_none rfl) (fun vs w hK => (rho_in rfl (fv (hK 5 (by decide))))) (fun hB vs w hK => (rho_in rfl (fvg (hK 9 (by decide)) hB))) ?_
            refine w_as (c' := .bool b) (congrArg Value.bool HB16.out) ?_
            refine w_move (.inr rfl) (fun vs w hK => ⟨wants_none rfl, rho_in rfl (fv (hK 10 (by decide)))⟩) ?_
            refine w_end rfl rfl rfl (fun vs wq hI hF => ?_)
            simp only [List.reverse_cons, List.reverse_nil, List.nil_append, List.cons_append, finL_val, finL_of, finL_any, finL_app, finL_new, finL_gr, finL_row, finL_box, finL_nil, Act.put, List.setIfInBounds_toArray, List.set_cons_zero, List.set_cons_succ, Nat.reduceAdd]
            have HB6 := Lib.hid (below_then HB5.out HB5.out.size hI)
            clear hI hF HB16 HB5
            obtain ⟨w6, rfl⟩ : ∃ w6 : World, w6 = wq := ⟨_, rfl⟩
            go_wp2_with fail
            go_roundw
            case rel => exact ⟨b, c' + 1, i' + 2, rfl, by go_num, by go_num, by omega, by omega, HQ1, HQ2, HB6⟩
            case measure => simp [intOf] <;> omega
          · have t3 : ((c : Int) == 0) = false := by rw [beq_eq_false_iff_ne]; omega
            have HQ1 : Hid (tailOk L = true ∧ 11 ≤ n ∧ i' + 1 ≤ n - 10 ∧ par (L.take (n - 10)) = more (c' + 1) (par ((L.take (n - 10)).drop (i' + 1)))) := Lib.hid ⟨HT1.out, h11, by omega, by rw [HPA.out, HD.out, par_cons _ (by omega), more_succ]⟩
            clear HPA HT1 HD hz
            go_wp2_with fail
            go_roundw
            case rel => exact ⟨true, c' + 1, i' + 1, rfl, by go_num, by go_num, by omega, by omega, Lib.hid (fun _ => HQ1.out), Lib.hid (fun h => by cases h), HB5⟩
            case measure => simp [intOf] <;> omega
        · obtain rfl : i' = n - 10 := by omega
          have H11 : Hid ((true && decide (((n - 10 : Nat) : Int) < ((n - 10 : Nat) : Int))) = false) := Lib.hid (by rw [Bool.true_and]; exact decide_eq_false (by omega))
          obtain ⟨rr, hrr⟩ : ∃ rr, rightL L = rr := ⟨_, rfl⟩
          have H17 : Hid ((true && decide ((c' : Int) ≤ 128)) = rr) := Lib.hid (by
            rw [← hrr]
            unfold rightL
            rw [HLL.out, HT1.out, decide_eq_true h11, HPA.out, List.drop_eq_nil_of_le (by rw [List.length_take, HLL.out]; omega), par_nil]
            show _ = decide (0 + c' ≤ 128)
            rw [Bool.true_and]
            exact decide_eq_decide.2 (by omega))
          have HRR := Lib.hid hrr
          clear hrr HPA HT1
          go_upto_region 11 with fail
          refine plain_ (fun wq => Below wr.heap.size wr wq) (fun _ => True) reg_5_11 rfl inv0 (fun _ _ _ _ => trivial) (Below.refl _ _) trivial ?_
          refine w_move (.inl rfl) (fun vs w hK => ⟨wants_none rfl, rho_out rfl rfl⟩) ?_
          refine w_move (.inl rfl) (fun vs w hK => ⟨wants_none rfl, rho_in rfl (fv (hK 0 (by decide)))⟩) ?_
          refine w_moveG (.inl rfl) (fun vs w hK => wantsT rfl (fv (hK 1 (by decide)))) (fun hG vs w hK => (rho_out rfl rfl)) ?_
          refine w_moveG (.inl rfl) (fun vs w hK => wantsT rfl (fv (hK 1 (by decide)))) (fun hG vs w hK => (rho_out rfl rfl)) ?_
          refine w_valG [(42, _)] (_) (fun vs w hK => wantsT rfl (fv (hK 1 (by decide)))) (fun hG vs w hK => ⟨(rho_in rfl (fvg (hK 3 (by decide)) hG)), trivial⟩) rfl (fun hG wq hI => by exact run_len_str rfl Try.underlying9 rfl (n := (n : Int)) (by rw [HN.out])) ?_
          refine w_valG [(43, _)] (_) (fun vs w hK => wantsT rfl (fv (hK 1 (by decide)))) (fun hG vs w hK => ⟨(rho_in rfl (fvg (hK 4 (by decide)) hG)), trivial⟩) rfl (fun hG wq hI => by exact run_int_sub rfl rfl rfl (c := ((n - 10 : Nat) : Int)) (by rw [i64_id (by omega) (by omega)]; omega)) ?_
          refine w_valG [(41, _), (44, _)] (_) (fun vs w hK => wantsT rfl (fv (hK 1 (by decide)))) (fun hG vs w hK => ⟨(rho_in rfl (fvg (hK 2 (by decide)) hG)), (rho_in rfl (fvg (hK 5 (by decide)) hG)), trivial⟩) rfl (fun hG wq hI => by exact run_int_lss rfl rfl rfl rfl) ?_
          refine w_and rfl (fun vs w hK => wants_none rfl) (fun vs w hK => (rho_in rfl (fv (hK 1 (by decide))))) (fun hB vs w hK => (rho_in rfl (fvg (hK 6 (by decide)) hB))) ?_
          refine w_as (c' := .bool false) (congrArg Value.bool H11.out) ?_
          refine w_end rfl rfl rfl (fun vs wq hI hF => ?_)
          simp only [List.reverse_cons, List.reverse_nil, List.nil_append, List.cons_append, finL_val, finL_of, finL_any, finL_app, finL_new, finL_gr, finL_row, finL_box, finL_nil, Act.put, List.setIfInBounds_toArray, List.set_cons_zero, List.set_cons_succ, Nat.reduceAdd]
          have HX5 := Lib.hid (box_below HXr.out hI)
          have HW5 := Lib.hid (below_then HWr.out HWr.out.size hI)
          clear hI hF H11 HB HXr HWr
          obtain ⟨w5, rfl⟩ : ∃ w5 : World, w5 = wq := ⟨_, rfl⟩
          go_upto_region 17 with fail
          refine plain_ (fun wq => Below w5.heap.size w5 wq) (fun _ => True) reg_5_17 rfl inv0 (fun _ _ _ _ => trivial) (Below.refl _ _) trivial ?_
          refine w_move (.inl rfl) (fun vs w hK => ⟨wants_none rfl, rho_out rfl rfl⟩) ?_
          refine w_move (.inl rfl) (fun vs w hK => ⟨wants_none rfl, rho_in rfl (fv (hK 0 (by decide)))⟩) ?_
          refine w_moveG (.inl rfl) (fun vs w hK => wantsT rfl (fv (hK 1 (by decide)))) (fun hG vs w hK => (rho_out rfl rfl)) ?_
          refine w_valG [(70, _)] (_) (fun vs w hK => wantsT rfl (fv (hK 1 (by decide)))) (fun hG vs w hK => ⟨(rho_in rfl (fvg (hK 2 (by decide)) hG)), trivial⟩) rfl (fun hG wq hI => by exact run_int_leq rfl rfl rfl rfl) ?_
          refine w_and rfl (fun vs w hK => wants_none rfl) (fun vs w hK => (rho_in rfl (fv (hK 1 (by decide))))) (fun hB vs w hK => (rho_in rfl (fvg (hK 3 (by decide)) hB))) ?_
          refine w_as (c' := .bool rr) (congrArg Value.bool H17.out) ?_
          refine w_move (.inr rfl) (fun vs w hK => ⟨wants_none rfl, rho_in rfl (fv (hK 4 (by decide)))⟩) ?_
          refine w_end rfl rfl rfl (fun vs wq hI hF => ?_)
          simp only [List.reverse_cons, List.reverse_nil, List.nil_append, List.cons_append, finL_val, finL_of, finL_any, finL_app, finL_new, finL_gr, finL_row, finL_box, finL_nil, Act.put, List.setIfInBounds_toArray, List.set_cons_zero, List.set_cons_succ, Nat.reduceAdd]
          have HXr := Lib.hid (box_below HX5.out hI)
          have HWr := Lib.hid (below_then HW5.out HW5.out.size hI)
          clear hI hF H17 HX5 HW5
          obtain ⟨wr, rfl⟩ : ∃ wr : World, wr = wq := ⟨_, rfl⟩
          rcases HYE.out with ⟨hE, hYz, hrf⟩ | ⟨hE, hrt, hck, hin⟩
          · subst hE
            have hzero : (Ent.mk yk ys yd yv).eqb Ent.zero = true := by rw [hYz]; exact Ent.eqb_self _
            have HZ := Lib.hid hzero
            have hr2 : rr = false := by rw [← HRR.out, hrf]
            have HR2 := Lib.hid hr2
            clear hYz hrf hzero hr2 HYE
            go_upto_region 19 with fail
            refine plain_ (fun wq => Below wr.heap.size wr wq) (fun _ => True) reg_5_19 rfl inv0 (fun _ _ _ _ => trivial) (Below.refl _ _) trivial ?_
            refine w_move (.inl rfl) (fun vs w hK => ⟨wants_none rfl, rho_out rfl rfl⟩) ?_
            refine w_val [(75, _)] (_) (fun vs w hK => ⟨wants_none rfl, rho_in rfl (fv (hK 0 (by decide))), trivial⟩) rfl (fun wq hI => by exact run_int_eql rfl rfl rfl rfl) ?_
            refine w_move (.inl rfl) (fun vs w hK => ⟨wants_none rfl, rho_in rfl (fv (hK 1 (by decide)))⟩) ?_
            refine w_valG [(3, _)] (_) (fun vs w hK => wantsT rfl (fv (hK 2 (by decide)))) (fun hG vs w hK => ⟨(rho_out rfl rfl), trivial⟩) rfl (fun hG wq hI => by exact run_load_op rfl rfl (load_ent (box_below HXr.out hI))) ?_
            refine w_valG [] (Ent.zero.ag) (fun vs w hK => wantsT rfl (fv (hK 2 (by decide)))) (fun hG vs w hK => trivial) rfl (fun hG wq hI => by simp only [execOp, Option.map_some, Option.map_none, lk_tmp, lk_const, lkT_cons, ↓reduceIte, Nat.reduceEqDiff]; go_simp; (first | done | rfl)) ?_
            refine w_valG [(78, _), (79, _)] (_) (fun vs w hK => wantsT rfl (fv (hK 2 (by decide)))) (fun hG vs w hK => ⟨(rho_in rfl (fvg (hK 3 (by decide)) hG)), (rho_in rfl (fvg (hK 4 (by decide)) hG)), trivial⟩) rfl (fun hG wq hI => by exact op_ent_eql rfl rfl rfl HZ.out) ?_
            refine w_and rfl (fun vs w hK => wants_none rfl) (fun vs w hK => (rho_in rfl (fv (hK 2 (by decide))))) (fun hB vs w hK => (rho_in rfl (fvg (hK 5 (by decide)) hB))) ?_
            refine w_move (.inl rfl) (fun vs w hK => ⟨wants_none rfl, rho_in rfl (fv (hK 6 (by decide)))⟩) ?_
            refine w_moveG (.inl rfl) (fun vs w hK => wantsT rfl (fv (hK 7 (by decide)))) (fun hG vs w hK => (rho_out rfl rfl)) ?_
            refine w_valG [(83, _)] (_) (fun vs w hK => wantsT rfl (fv (hK 7 (by decide)))) (fun hG vs w hK => ⟨(rho_in rfl (fvg (hK 8 (by decide)) hG)), trivial⟩) rfl (fun hG wq hI => by exact op_not rfl rfl rfl) ?_
            refine w_and rfl (fun vs w hK => wants_none rfl) (fun vs w hK => (rho_in rfl (fv (hK 7 (by decide))))) (fun hB vs w hK => (rho_in rfl (fvg (hK 9 (by decide)) hB))) ?_
            refine w_as (c' := .bool true) (by rw [HR2.out]; rfl) ?_
            refine w_move (.inr rfl) (fun vs w hK => ⟨wants_none rfl, rho_in rfl (fv (hK 10 (by decide)))⟩) ?_
            refine w_end rfl rfl rfl (fun vs wq hI hF => ?_)
            simp only [List.reverse_cons, List.reverse_nil, List.nil_append, List.cons_append, finL_val, finL_of, finL_any, finL_app, finL_new, finL_gr, finL_row, finL_box, finL_nil, Act.put, List.setIfInBounds_toArray, List.set_cons_zero, List.set_cons_succ, Nat.reduceAdd]
            have HW6 := Lib.hid (below_then HWr.out HWr.out.size hI)
            clear hI hF
            go_wp2_with fail
            go_ret
            exact ⟨rfl, HW6.out⟩
          · subst hE
            have hr2 : rr = true := by rw [← HRR.out, hrt]
            have HR2 := Lib.hid hr2
            have HCK := Lib.hid hck
            have HIN := Lib.hid hin
            clear hrt hck hin hr2 HYE
            go_upto_region 20 with fail
            refine plain_ (fun wq => Below wr.heap.size wr wq) (fun _ => True) reg_5_20 rfl inv0 (fun _ _ _ _ => trivial) (Below.refl _ _) trivial ?_
            refine w_move (.inl rfl) (fun vs w hK => ⟨wants_none rfl, rho_out rfl rfl⟩) ?_
            refine w_move (.inl rfl) (fun vs w hK => ⟨wants_none rfl, rho_in rfl (fv (hK 0 (by decide)))⟩) ?_
            refine w_valG [(3, _)] (_) (fun vs w hK => wantsT rfl (fv (hK 1 (by decide)))) (fun hG vs w hK => ⟨(rho_out rfl rfl), trivial⟩) rfl (fun hG wq hI => by exact run_load_op rfl rfl (load_ent (box_below HXr.out hI))) ?_
            refine w_callG [(88, _)] _ _ (by decide) (fun vs w hK => wantsT rfl (fv (hK 1 (by decide)))) (fun hG vs w hK => ⟨(rho_in rfl (fvg (hK 2 (by decide)) hG)), trivial⟩) rfl rfl Try.func11 (by kernel_rfl) rfl (fun hG wq hI => CKY.out wq) (margs rfl) ?_
            refine w_valG [(89, _)] (_) (fun vs w hK => wantsT rfl (fv (hK 1 (by decide)))) (fun hG vs w hK => ⟨(rho_in rfl (fvg (hK 3 (by decide)) hG)), trivial⟩) rfl (fun hG wq hI => by exact run_int_eql rfl rfl rfl rfl) ?_
            refine w_and rfl (fun vs w hK => wants_none rfl) (fun vs w hK => (rho_in rfl (fv (hK 1 (by decide))))) (fun hB vs w hK => (rho_in rfl (fvg (hK 4 (by decide)) hB))) ?_
            refine w_move (.inl rfl) (fun vs w hK => ⟨wants_none rfl, rho_in rfl (fv (hK 5 (by decide)))⟩) ?_
            refine w_valG [(3, _)] (_) (fun vs w hK => wantsT rfl (fv (hK 6 (by decide)))) (fun hG vs w hK => ⟨(rho_out rfl rfl), trivial⟩) rfl (fun hG wq hI => by exact run_load_op rfl rfl (load_ent (box_below HXr.out hI))) ?_
            refine w_callG [(93, _)] _ _ (by decide) (fun vs w hK => wantsT rfl (fv (hK 6 (by decide)))) (fun hG vs w hK => ⟨(rho_in rfl (fvg (hK 7 (by decide)) hG)), trivial⟩) rfl rfl Try.func13 (by kernel_rfl) rfl (fun hG wq hI => CIY.out wq) (margs rfl) ?_
            refine w_moveG (.inl rfl) (fun vs w hK => wantsT rfl (fv (hK 6 (by decide)))) (fun hG vs w hK => (rho_out rfl rfl)) ?_
            refine w_valG [(94, _), (95, _)] (_) (fun vs w hK => wantsT rfl (fv (hK 6 (by decide)))) (fun hG vs w hK => ⟨(rho_in rfl (fvg (hK 8 (by decide)) hG)), (rho_in rfl (fvg (hK 9 (by decide)) hG)), trivial⟩) rfl (fun hG wq hI => by exact op_str_eq rfl rfl rfl rfl) ?_
            refine w_and rfl (fun vs w hK => wants_none rfl) (fun vs w hK => (rho_in rfl (fv (hK 6 (by decide))))) (fun hB vs w hK => (rho_in rfl (fvg (hK 10 (by decide)) hB))) ?_
            refine w_as (c' := .bool true) (by rw [HR2.out, HCK.out, HIN.out]; simp) ?_
            refine w_move (.inr rfl) (fun vs w hK => ⟨wants_none rfl, rho_in rfl (fv (hK 11 (by decide)))⟩) ?_
            refine w_end rfl rfl rfl (fun vs wq hI hF => ?_)
            simp only [List.reverse_cons, List.reverse_nil, List.nil_append, List.cons_append, finL_val, finL_of, finL_any, finL_app, finL_new, finL_gr, finL_row, finL_box, finL_nil, Act.put, List.setIfInBounds_toArray, List.set_cons_zero, List.set_cons_succ, Nat.reduceAdd]
            have HW6 := Lib.hid (below_then HWr.out HWr.out.size hI)
            clear hI hF
            go_wp2_with fail
            go_ret
            exact ⟨rfl, HW6.out⟩
  · have t2 : ¬ (11 : Int) ≤ (s.size : Int) := by have := HN.out; omega
    have HR0 : Hid (rightL L = false) := Lib.hid (by unfold rightL; rw [HLL.out, decide_eq_false h11]; rfl)
    have HX4 := HX3
    have HW4 := HW3
    clear HX3 HW3 h11
    go_wp2_with fail
    go_loopw [5, 6, 7] (fun r c i wr => ∃ (r' : Bool) (c' i' : Nat), r = .bool r' ∧ c = .int .i64 c' ∧ i = .int .i64 i' ∧ i' ≤ n + 1 ∧ c' ≤ i' ∧ Hid (r' = true → tailOk L = true ∧ 11 ≤ n ∧ i' ≤ n - 10 ∧ par (L.take (n - 10)) = more c' (par ((L.take (n - 10)).drop i'))) ∧ Hid (r' = false → rightL L = false) ∧ Hid (Below w3.heap.size w3 wr)) (fun _ _ i _ => n + 3 - (intOf i).toNat)
    case atStart => exact ⟨false, 0, 0, rfl, rfl, rfl, by omega, Nat.le_refl _, Lib.hid (fun h => by cases h), Lib.hid (fun _ => HR0.out), Lib.hid (Below.refl _ _)⟩
    case round =>
      obtain ⟨r', c', i', rfl, rfl, rfl, hi1, hc1, HP, HQ, HB⟩ := hrel
      have HXr := Lib.hid (box_below HX4.out HB.out)
      have HWr := Lib.hid (below_then HW4.out HW4.out.size HB.out)
      cases r'
      · have HRR : Hid (rightL L = false) := Lib.hid (HQ.out rfl)
        clear HP HQ
        go_upto_region 18 with fail
        rcases HYE.out with ⟨hE, hYz, hrf⟩ | ⟨hE, hrt, hck, hin⟩
        · subst hE
          have hzero : (Ent.mk yk ys yd yv).eqb Ent.zero = true := by rw [hYz]; exact Ent.eqb_self _
          have HZ := Lib.hid hzero
          have hr2 : false = false := by rw [← HRR.out, hrf]
          have HR2 := Lib.hid hr2
          clear hYz hrf hzero hr2 HYE
          go_upto_region 19 with fail
          refine plain_ (fun wq => Below wr.heap.size wr wq) (fun _ => True) reg_5_19 rfl inv0 (fun _ _ _ _ => trivial) (Below.refl _ _) trivial ?_
          refine w_move (.inl rfl) (fun vs w hK => ⟨wants_none rfl, rho_out rfl rfl⟩) ?_
          refine w_val [(75, _)] (_) (fun vs w hK => ⟨wants_none rfl, rho_in rfl (fv (hK 0 (by decide))), trivial⟩) rfl (fun wq hI => by exact run_int_eql rfl rfl rfl rfl) ?_
          refine w_move (.inl rfl) (fun vs w hK => ⟨wants_none rfl, rho_in rfl (fv (hK 1 (by decide)))⟩) ?_
          refine w_valG [(3, _)] (_) (fun vs w hK => wantsT rfl (fv (hK 2 (by decide)))) (fun hG vs w hK => ⟨(rho_out rfl rfl), trivial⟩) rfl (fun hG wq hI => by exact run_load_op rfl rfl (load_ent (box_below HXr.out hI))) ?_
          refine w_valG [] (Ent.zero.ag) (fun vs w hK => wantsT rfl (fv (hK 2 (by decide)))) (fun hG vs w hK => trivial) rfl (fun hG wq hI => by simp only [execOp, Option.map_some, Option.map_none, lk_tmp, lk_const, lkT_cons, ↓reduceIte, Nat.reduceEqDiff]; go_simp; (first | done | rfl)) ?_
          refine w_valG [(78, _), (79, _)] (_) (fun vs w hK => wantsT rfl (fv (hK 2 (by decide)))) (fun hG vs w hK => ⟨(rho_in rfl (fvg (hK 3 (by decide)) hG)), (rho_in rfl (fvg (hK 4 (by decide)) hG)), trivial⟩) rfl (fun hG wq hI => by exact op_ent_eql rfl rfl rfl HZ.out) ?_
          refine w_and rfl (fun vs w hK => wants_none rfl) (fun vs w hK => (rho_in rfl (fv (hK 2 (by decide))))) (fun hB vs w hK => (rho_in rfl (fvg (hK 5 (by decide)) hB))) ?_
          refine w_move (.inl rfl) (fun vs w hK => ⟨wants_none rfl, rho_in rfl (fv (hK 6 (by decide)))⟩) ?_
          refine w_moveG (.inl rfl) (fun vs w hK => wantsT rfl (fv (hK 7 (by decide)))) (fun hG vs w hK => (rho_out rfl rfl)) ?_
          refine w_valG [(83, _)] (_) (fun vs w hK => wantsT rfl (fv (hK 7 (by decide)))) (fun hG vs w hK => ⟨(rho_in rfl (fvg (hK 8 (by decide)) hG)), trivial⟩) rfl (fun hG wq hI => by exact op_not rfl rfl rfl) ?_
          refine w_and rfl (fun vs w hK => wants_none rfl) (fun vs w hK => (rho_in rfl (fv (hK 7 (by decide))))) (fun hB vs w hK => (rho_in rfl (fvg (hK 9 (by decide)) hB))) ?_
          refine w_as (c' := .bool true) (by rw [HR2.out]; rfl) ?_
          refine w_move (.inr rfl) (fun vs w hK => ⟨wants_none rfl, rho_in rfl (fv (hK 10 (by decide)))⟩) ?_
          refine w_end rfl rfl rfl (fun vs wq hI hF => ?_)
          simp only [List.reverse_cons, List.reverse_nil, List.nil_append, List.cons_append, finL_val, finL_of, finL_any, finL_app, finL_new, finL_gr, finL_row, finL_box, finL_nil, Act.put, List.setIfInBounds_toArray, List.set_cons_zero, List.set_cons_succ, Nat.reduceAdd]
          have HW6 := Lib.hid (below_then HWr.out HWr.out.size hI)
          clear hI hF
          go_wp2_with fail
          go_ret
          exact ⟨rfl, HW6.out⟩
        · subst hE
          have hr2 : false = true := by rw [← HRR.out, hrt]
          have HR2 := Lib.hid hr2
          have HCK := Lib.hid hck
          have HIN := Lib.hid hin
          clear hrt hck hin hr2 HYE
          go_upto_region 20 with fail
          refine plain_ (fun wq => Below wr.heap.size wr wq) (fun _ => True) reg_5_20 rfl inv0 (fun _ _ _ _ => trivial) (Below.refl _ _) trivial ?_
          refine w_move (.inl rfl) (fun vs w hK => ⟨wants_none rfl, rho_out rfl rfl⟩) ?_
          refine w_move (.inl rfl) (fun vs w hK => ⟨wants_none rfl, rho_in rfl (fv (hK 0 (by decide)))⟩) ?_
          refine w_valG [(3, _)] (_) (fun vs w hK => wantsT rfl (fv (hK 1 (by decide)))) (fun hG vs w hK => ⟨(rho_out rfl rfl), trivial⟩) rfl (fun hG wq hI => by exact run_load_op rfl rfl (load_ent (box_below HXr.out hI))) ?_
          refine w_callG [(88, _)] _ _ (by decide) (fun vs w hK => wantsT rfl (fv (hK 1 (by decide)))) (fun hG vs w hK => ⟨(rho_in rfl (fvg (hK 2 (by decide)) hG)), trivial⟩) rfl rfl Try.func11 (by kernel_rfl) rfl (fun hG wq hI => CKY.out wq) (margs rfl) ?_
          refine w_valG [(89, _)] (_) (fun vs w hK => wantsT rfl (fv (hK 1 (by decide)))) (fun hG vs w hK => ⟨(rho_in rfl (fvg (hK 3 (by decide)) hG)), trivial⟩) rfl (fun hG wq hI => by exact run_int_eql rfl rfl rfl rfl) ?_
          refine w_and rfl (fun vs w hK => wants_none rfl) (fun vs w hK => (rho_in rfl (fv (hK 1 (by decide))))) (fun hB vs w hK => (rho_in rfl (fvg (hK 4 (by decide)) hB))) ?_
          refine w_move (.inl rfl) (fun vs w hK => ⟨wants_none rfl, rho_in rfl (fv (hK 5 (by decide)))⟩) ?_
          refine w_valG [(3, _)] (_) (fun vs w hK => wantsT rfl (fv (hK 6 (by decide)))) (fun hG vs w hK => ⟨(rho_out rfl rfl), trivial⟩) rfl (fun hG wq hI => by exact run_load_op rfl rfl (load_ent (box_below HXr.out hI))) ?_
          refine w_callG [(93, _)] _ _ (by decide) (fun vs w hK => wantsT rfl (fv (hK 6 (by decide)))) (fun hG vs w hK => ⟨(rho_in rfl (fvg (hK 7 (by decide)) hG)), trivial⟩) rfl rfl Try.func13 (by kernel_rfl) rfl (fun hG wq hI => CIY.out wq) (margs rfl) ?_
          refine w_moveG (.inl rfl) (fun vs w hK => wantsT rfl (fv (hK 6 (by decide)))) (fun hG vs w hK => (rho_out rfl rfl)) ?_
          refine w_valG [(94, _), (95, _)] (_) (fun vs w hK => wantsT rfl (fv (hK 6 (by decide)))) (fun hG vs w hK => ⟨(rho_in rfl (fvg (hK 8 (by decide)) hG)), (rho_in rfl (fvg (hK 9 (by decide)) hG)), trivial⟩) rfl (fun hG wq hI => by exact op_str_eq rfl rfl rfl rfl) ?_
          refine w_and rfl (fun vs w hK => wants_none rfl) (fun vs w hK => (rho_in rfl (fv (hK 6 (by decide))))) (fun hB vs w hK => (rho_in rfl (fvg (hK 10 (by decide)) hB))) ?_
          refine w_as (c' := .bool true) (by rw [HR2.out, HCK.out, HIN.out]; simp) ?_
          refine w_move (.inr rfl) (fun vs w hK => ⟨wants_none rfl, rho_in rfl (fv (hK 11 (by decide)))⟩) ?_
          refine w_end rfl rfl rfl (fun vs wq hI hF => ?_)
          simp only [List.reverse_cons, List.reverse_nil, List.nil_append, List.cons_append, finL_val, finL_of, finL_any, finL_app, finL_new, finL_gr, finL_row, finL_box, finL_nil, Act.put, List.setIfInBounds_toArray, List.set_cons_zero, List.set_cons_succ, Nat.reduceAdd]
          have HW6 := Lib.hid (below_then HWr.out HWr.out.size hI)
          clear hI hF
          go_wp2_with fail
          go_ret
          exact ⟨rfl, HW6.out⟩
      · obtain ⟨hT1, h11, hi2, hpar⟩ := HP.out rfl
        have HPA := Lib.hid hpar
        have HT1 := Lib.hid hT1
        clear hpar hT1 HP HQ
        by_cases hlt : i' < n - 10
        · have hin : i' < n := by omega
          have hks : i' < s.size := by rw [← HN.out]; exact hin
          obtain ⟨c, hcc⟩ : ∃ c : Nat, (s[i']'hks).toNat = c := ⟨_, rfl⟩
          have hc2 : L.getD i' 0 = (c : Int) := by rw [HL.out, ← at_str s i' hks, hcc]
          have hD : (L.take (n - 10)).drop i' = (c : Int) :: (L.take (n - 10)).drop (i' + 1) := by
            rw [List.drop_eq_getElem_cons (by rw [List.length_take, HLL.out]; omega)]
            rw [List.getD_eq_getElem?_getD, List.getElem?_eq_getElem (by rw [HLL.out]; exact hin), Option.getD_some] at hc2
            rw [List.getElem_take, hc2]
          have HD := Lib.hid hD
          clear hc2 hD
          have H11 : Hid ((true && decide ((i' : Int) < ((n - 10 : Nat) : Int))) = true) := Lib.hid (by rw [Bool.true_and]; exact decide_eq_true (by omega))
          go_upto_region 11 with fail
          refine plain_ (fun wq => Below wr.heap.size wr wq) (fun _ => True) reg_5_11 rfl inv0 (fun _ _ _ _ => trivial) (Below.refl _ _) trivial ?_
          refine w_move (.inl rfl) (fun vs w hK => ⟨wants_none rfl, rho_out rfl rfl⟩) ?_
          refine w_move (.inl rfl) (fun vs w hK => ⟨wants_none rfl, rho_in rfl (fv (hK 0 (by decide)))⟩) ?_
          refine w_moveG (.inl rfl) (fun vs w hK => wantsT rfl (fv (hK 1 (by decide)))) (fun hG vs w hK => (rho_out rfl rfl)) ?_
          refine w_moveG (.inl rfl) (fun vs w hK => wantsT rfl (fv (hK 1 (by decide)))) (fun hG vs w hK => (rho_out rfl rfl)) ?_
          refine w_valG [(42, _)] (_) (fun vs w hK => wantsT rfl (fv (hK 1 (by decide)))) (fun hG vs w hK => ⟨(rho_in rfl (fvg (hK 3 (by decide)) hG)), trivial⟩) rfl (fun hG wq hI => by exact run_len_str rfl Try.underlying9 rfl (n := (n : Int)) (by rw [HN.out])) ?_
          refine w_valG [(43, _)] (_) (fun vs w hK => wantsT rfl (fv (hK 1 (by decide)))) (fun hG vs w hK => ⟨(rho_in rfl (fvg (hK 4 (by decide)) hG)), trivial⟩) rfl (fun hG wq hI => by exact run_int_sub rfl rfl rfl (c := ((n - 10 : Nat) : Int)) (by rw [i64_id (by omega) (by omega)]; omega)) ?_
          refine w_valG [(41, _), (44, _)] (_) (fun vs w hK => wantsT rfl (fv (hK 1 (by decide)))) (fun hG vs w hK => ⟨(rho_in rfl (fvg (hK 2 (by decide)) hG)), (rho_in rfl (fvg (hK 5 (by decide)) hG)), trivial⟩) rfl (fun hG wq hI => by exact run_int_lss rfl rfl rfl rfl) ?_
          refine w_and rfl (fun vs w hK => wants_none rfl) (fun vs w hK => (rho_in rfl (fv (hK 1 (by decide))))) (fun hB vs w hK => (rho_in rfl (fvg (hK 6 (by decide)) hB))) ?_
          refine w_as (c' := .bool true) (congrArg Value.bool H11.out) ?_
          refine w_end rfl rfl rfl (fun vs wq hI hF => ?_)
          simp only [List.reverse_cons, List.reverse_nil, List.nil_append, List.cons_append, finL_val, finL_of, finL_any, finL_app, finL_new, finL_gr, finL_row, finL_box, finL_nil, Act.put, List.setIfInBounds_toArray, List.set_cons_zero, List.set_cons_succ, Nat.reduceAdd]
          have HB5 := Lib.hid (below_then HB.out HB.out.size hI)
          clear hI hF H11 HB HXr HWr
          obtain ⟨w5, rfl⟩ : ∃ w5 : World, w5 = wq := ⟨_, rfl⟩
          by_cases hz : c = 0
          · subst hz
            have t3 : (((0 : Nat) : Int) == 0) = true := rfl
            obtain ⟨b, hb⟩ : ∃ b, (decide (((i' + 1 : Nat) : Int) < ((n - 10 : Nat) : Int)) && (((numsOf s).getD (i' + 1) 0) == 255)) = b := ⟨_, rfl⟩
            have HQ1 : Hid (b = true → tailOk L = true ∧ 11 ≤ n ∧ i' + 2 ≤ n - 10 ∧ par (L.take (n - 10)) = more (c' + 1) (par ((L.take (n - 10)).drop (i' + 2)))) := Lib.hid (fun hbt => by
              rw [hbt, Bool.and_eq_true, decide_eq_true_eq, beq_iff_eq] at hb
              have hl1 : i' + 1 < n - 10 := by omega
              have hD2 : (L.take (n - 10)).drop (i' + 1) = 255 :: (L.take (n - 10)).drop (i' + 2) := by
                rw [List.drop_eq_getElem_cons (by rw [List.length_take, HLL.out]; omega)]
                have h2 := hb.2
                rw [← HL.out, List.getD_eq_getElem?_getD, List.getElem?_eq_getElem (by rw [HLL.out]; omega), Option.getD_some] at h2
                rw [List.getElem_take, h2]
              refine ⟨HT1.out, h11, by omega, ?_⟩
              rw [HPA.out, HD.out, hD2]
              show more c' (par (0 :: 255 :: (L.take (n - 10)).drop (i' + 2))) = _
              rw [par_esc0, more_succ])
            have HQ2 : Hid (b = false → rightL L = false) := Lib.hid (fun hbf => by
              have hpn : par (L.take (n - 10)) = none := by
                rw [HPA.out, HD.out]
                by_cases hl1 : i' + 1 < n - 10
                · have hD2 : (L.take (n - 10)).drop (i' + 1) = (L.getD (i' + 1) 0) :: (L.take (n - 10)).drop (i' + 2) := by
                    rw [List.drop_eq_getElem_cons (by rw [List.length_take, HLL.out]; omega), List.getElem_take, List.getD_eq_getElem?_getD, List.getElem?_eq_getElem (by rw [HLL.out]; omega), Option.getD_some]
                  rw [hD2]
                  show more c' (par (0 :: L.getD (i' + 1) 0 :: _)) = none
                  rw [par_bad]
                  · rfl
                  · intro e
                    rw [hbf, decide_eq_true (by omega), Bool.true_and, ← HL.out, e] at hb
                    simp at hb
                · rw [List.drop_eq_nil_of_le (by rw [List.length_take, HLL.out]; omega)]
                  show more c' (par [0]) = none
                  rw [par_zero]; rfl
              unfold rightL
              rw [HLL.out, hpn]
              simp [few])
            have HB16 := Lib.hid hb
            clear hb HPA HT1 HD
            go_upto_region 16 with fail
            refine plain_ (fun wq => Below w5.heap.size w5 wq) (fun _ => True) reg_5_16 rfl inv0 (fun _ _ _ _ => trivial) (Below.refl _ _) trivial ?_
            refine w_move (.inl rfl) (fun vs w hK => ⟨wants_none rfl, rho_out rfl rfl⟩) ?_
            refine w_move (.inl rfl) (fun vs w hK => ⟨wants_none rfl, rho_out rfl rfl⟩) ?_
            refine w_val [(58, _)] (_) (fun vs w hK => ⟨wants_none rfl, rho_in rfl (fv (hK 1 (by decide))), trivial⟩) rfl (fun wq hI => by exact run_len_str rfl Try.underlying9 rfl (n := (n : Int)) (by rw [HN.out])) ?_
            refine w_val [(59, _)] (_) (fun vs w hK => ⟨wants_none rfl, rho_in rfl (fv (hK 2 (by decide))), trivial⟩) rfl (fun wq hI => by exact run_int_sub rfl rfl rfl (c := ((n - 10 : Nat) : Int)) (by rw [i64_id (by omega) (by omega)]; omega)) ?_
            refine w_val [(57, _), (60, _)] (_) (fun vs w hK => ⟨wants_none rfl, rho_in rfl (fv (hK 0 (by decide))), rho_in rfl (fv (hK 3 (by decide))), trivial⟩) rfl (fun wq hI => by exact run_int_lss rfl rfl rfl (r := decide (((i' + 1 : Nat) : Int) < ((n - 10 : Nat) : Int))) (by congr 1)) ?_
            refine w_move (.inl rfl) (fun vs w hK => ⟨wants_none rfl, rho_in rfl (fv (hK 4 (by decide)))⟩) ?_
            refine w_moveG (.inl rfl) (fun vs w hK => wantsT rfl (fv (hK 5 (by decide)))) (fun hG vs w hK => (rho_out rfl rfl)) ?_
            refine w_moveG (.inl rfl) (fun vs w hK => wantsT rfl (fv (hK 5 (by decide)))) (fun hG vs w hK => (rho_out rfl rfl)) ?_
            refine w_valG [(63, _), (64, _)] (_) (fun vs w hK => wantsT rfl (fv (hK 5 (by decide)))) (fun hG vs w hK => ⟨(rho_in rfl (fvg (hK 6 (by decide)) hG)), (rho_in rfl (fvg (hK 7 (by decide)) hG)), trivial⟩) rfl (fun hG wq hI => by exact op_index_str (i := i' + 1) rfl Try.underlying9 rfl rfl (by omega) (by have := of_decide_eq_true hG; rw [← HN.out]; omega) rfl) ?_
            refine w_valG [(65, _)] (_) (fun vs w hK => wantsT rfl (fv (hK 5 (by decide)))) (fun hG vs w hK => ⟨(rho_in rfl (fvg (hK 8 (by decide)) hG)), trivial⟩) rfl (fun hG wq hI => by exact run_int_eql rfl rfl rfl rfl) ?_
            refine w_and rfl (fun vs w hK => wants_none rfl) (fun vs w hK => (rho_in rfl (fv (hK 5 (by decide))))) (fun hB vs w hK => (rho_in rfl (fvg (hK 9 (by decide)) hB))) ?_
            refine w_as (c' := .bool b) (congrArg Value.bool HB16.out) ?_
            refine w_move (.inr rfl) (fun vs w hK => ⟨wants_none rfl, rho_in rfl (fv (hK 10 (by decide)))⟩) ?_
            refine w_end rfl rfl rfl (fun vs wq hI hF => ?_)
            simp only [List.reverse_cons, List.reverse_nil, List.nil_append, List.cons_append, finL_val, finL_of, finL_any, finL_app, finL_new, finL_gr, finL_row, finL_box, finL_nil, Act.put, List.setIfInBounds_toArray, List.set_cons_zero, List.set_cons_succ, Nat.reduceAdd]
            have HB6 := Lib.hid (below_then HB5.out HB5.out.size hI)
            clear hI hF HB16 HB5
            obtain ⟨w6, rfl⟩ : ∃ w6 : World, w6 = wq := ⟨_, rfl⟩
            go_wp2_with fail
            go_roundw
            case rel => exact ⟨b, c' + 1, i' + 2, rfl, by go_num, by go_num, by omega, by omega, HQ1, HQ2, HB6⟩
            case measure => simp [intOf] <;> omega
          · have t3 : ((c : Int) == 0) = false := by rw [beq_eq_false_iff_ne]; omega
            have HQ1 : Hid (tailOk L = true ∧ 11 ≤ n ∧ i' + 1 ≤ n - 10 ∧ par (L.take (n - 10)) = more (c' + 1) (par ((L.take (n - 10)).drop (i' + 1)))) := Lib.hid ⟨HT1.out, h11, by omega, by rw [HPA.out, HD.out, par_cons _ (by omega), more_succ]⟩
            clear HPA HT1 HD hz
            go_wp2_with fail
            go_roundw
            case rel => exact ⟨true, c' + 1, i' + 1, rfl, by go_num, by go_num, by omega, by omega, Lib.hid (fun _ => HQ1.out), Lib.hid (fun h => by cases h), HB5⟩
            case measure => simp [intOf] <;> omega
        · obtain rfl : i' = n - 10 := by omega
          have H11 : Hid ((true && decide (((n - 10 : Nat) : Int) < ((n - 10 : Nat) : Int))) = false) := Lib.hid (by rw [Bool.true_and]; exact decide_eq_false (by omega))
          obtain ⟨rr, hrr⟩ : ∃ rr, rightL L = rr := ⟨_, rfl⟩
          have H17 : Hid ((true && decide ((c' : Int) ≤ 128)) = rr) := Lib.hid (by
            rw [← hrr]
            unfold rightL
            rw [HLL.out, HT1.out, decide_eq_true h11, HPA.out, List.drop_eq_nil_of_le (by rw [List.length_take, HLL.out]; omega), par_nil]
            show _ = decide (0 + c' ≤ 128)
            rw [Bool.true_and]
            exact decide_eq_decide.2 (by omega))
          have HRR := Lib.hid hrr
          clear hrr HPA HT1
          go_upto_region 11 with fail
          refine plain_ (fun wq => Below wr.heap.size wr wq) (fun _ => True) reg_5_11 rfl inv0 (fun _ _ _ _ => trivial) (Below.refl _ _) trivial ?_
          refine w_move (.inl rfl) (fun vs w hK => ⟨wants_none rfl, rho_out rfl rfl⟩) ?_
          refine w_move (.inl rfl) (fun vs w hK => ⟨wants_none rfl, rho_in rfl (fv (hK 0 (by decide)))⟩) ?_
          refine w_moveG (.inl rfl) (fun vs w hK => wantsT rfl (fv (hK 1 (by decide)))) (fun hG vs w hK => (rho_out rfl rfl)) ?_
          refine w_moveG (.inl rfl) (fun vs w hK => wantsT rfl (fv (hK 1 (by decide)))) (fun hG vs w hK => (rho_out rfl rfl)) ?_
          refine w_valG [(42, _)] (_) (fun vs w hK => wantsT rfl (fv (hK 1 (by decide)))) (fun hG vs w hK => ⟨(rho_in rfl (fvg (hK 3 (by decide)) hG)), trivial⟩) rfl (fun hG wq hI => by exact run_len_str rfl Try.underlying9 rfl (n := (n : Int)) (by rw [HN.out])) ?_
          refine w_valG [(43, _)] (_) (fun vs w hK => wantsT rfl (fv (hK 1 (by decide)))) (fun hG vs w hK => ⟨(rho_in rfl (fvg (hK 4 (by decide)) hG)), trivial⟩) rfl (fun hG wq hI => by exact run_int_sub rfl rfl rfl (c := ((n - 10 : Nat) : Int)) (by rw [i64_id (by omega) (by omega)]; omega)) ?_
          refine w_valG [(41, _), (44, _)] (_) (fun vs w hK => wantsT rfl (fv (hK 1 (by decide)))) (fun hG vs w hK => ⟨(rho_in rfl (fvg (hK 2 (by decide)) hG)), (rho_in rfl (fvg (hK 5 (by decide)) hG)), trivial⟩) rfl (fun hG wq hI => by exact run_int_lss rfl rfl rfl rfl) ?_
          refine w_and rfl (fun vs w hK => wants_none rfl) (fun vs w hK => (rho_in rfl (fv (hK 1 (by decide))))) (fun hB vs w hK => (rho_in rfl (fvg (hK 6 (by decide)) hB))) ?_
          refine w_as (c' := .bool false) (congrArg Value.bool H11.out) ?_
          refine w_end rfl rfl rfl (fun vs wq hI hF => ?_)
          simp only [List.reverse_cons, List.reverse_nil, List.nil_append, List.cons_append, finL_val, finL_of, finL_any, finL_app, finL_new, finL_gr, finL_row, finL_box, finL_nil, Act.put, List.setIfInBounds_toArray, List.set_cons_zero, List.set_cons_succ, Nat.reduceAdd]
          have HX5 := Lib.hid (box_below HXr.out hI)
          have HW5 := Lib.hid (below_then HWr.out HWr.out.size hI)
          clear hI hF H11 HB HXr HWr
          obtain ⟨w5, rfl⟩ : ∃ w5 : World, w5 = wq := ⟨_, rfl⟩
          go_upto_region 17 with fail
          refine plain_ (fun wq => Below w5.heap.size w5 wq) (fun _ => True) reg_5_17 rfl inv0 (fun _ _ _ _ => trivial) (Below.refl _ _) trivial ?_
          refine w_move (.inl rfl) (fun vs w hK => ⟨wants_none rfl, rho_out rfl rfl⟩) ?_
          refine w_move (.inl rfl) (fun vs w hK => ⟨wants_none rfl, rho_in rfl (fv (hK 0 (by decide)))⟩) ?_
          refine w_moveG (.inl rfl) (fun vs w hK => wantsT rfl (fv (hK 1 (by decide)))) (fun hG vs w hK => (rho_out rfl rfl)) ?_
          refine w_valG [(70, _)] (_) (fun vs w hK => wantsT rfl (fv (hK 1 (by decide)))) (fun hG vs w hK => ⟨(rho_in rfl (fvg (hK 2 (by decide)) hG)), trivial⟩) rfl (fun hG wq hI => by exact run_int_leq rfl rfl rfl rfl) ?_
          refine w_and rfl (fun vs w hK => wants_none rfl) (fun vs w hK => (rho_in rfl (fv (hK 1 (by decide))))) (fun hB vs w hK => (rho_in rfl (fvg (hK 3 (by decide)) hB))) ?_
          refine w_as (c' := .bool rr) (congrArg Value.bool H17.out) ?_
          refine w_move (.inr rfl) (fun vs w hK => ⟨wants_none rfl, rho_in rfl (fv (hK 4 (by decide)))⟩) ?_
          refine w_end rfl rfl rfl (fun vs wq hI hF => ?_)
          simp only [List.reverse_cons, List.reverse_nil, List.nil_append, List.cons_append, finL_val, finL_of, finL_any, finL_app, finL_new, finL_gr, finL_row, finL_box, finL_nil, Act.put, List.setIfInBounds_toArray, List.set_cons_zero, List.set_cons_succ, Nat.reduceAdd]
          have HXr := Lib.hid (box_below HX5.out hI)
          have HWr := Lib.hid (below_then HW5.out HW5.out.size hI)
          clear hI hF H17 HX5 HW5
          obtain ⟨wr, rfl⟩ : ∃ wr : World, wr = wq := ⟨_, rfl⟩
          rcases HYE.out with ⟨hE, hYz, hrf⟩ | ⟨hE, hrt, hck, hin⟩
          · subst hE
            have hzero : (Ent.mk yk ys yd yv).eqb Ent.zero = true := by rw [hYz]; exact Ent.eqb_self _
            have HZ := Lib.hid hzero
            have hr2 : rr = false := by rw [← HRR.out, hrf]
            have HR2 := Lib.hid hr2
            clear hYz hrf hzero hr2 HYE
            go_upto_region 19 with fail
            refine plain_ (fun wq => Below wr.heap.size wr wq) (fun _ => True) reg_5_19 rfl inv0 (fun _ _ _ _ => trivial) (Below.refl _ _) trivial ?_
            refine w_move (.inl rfl) (fun vs w hK => ⟨wants_none rfl, rho_out rfl rfl⟩) ?_
            refine w_val [(75, _)] (_) (fun vs w hK => ⟨wants_none rfl, rho_in rfl (fv (hK 0 (by decide))), trivial⟩) rfl (fun wq hI => by exact run_int_eql rfl rfl rfl rfl) ?_
            refine w_move (.inl rfl) (fun vs w hK => ⟨wants_none rfl, rho_in rfl (fv (hK 1 (by decide)))⟩) ?_
            refine w_valG [(3, _)] (_) (fun vs w hK => wantsT rfl (fv (hK 2 (by decide)))) (fun hG vs w hK => ⟨(rho_out rfl rfl), trivial⟩) rfl (fun hG wq hI => by exact run_load_op rfl rfl (load_ent (box_below HXr.out hI))) ?_
            refine w_valG [] (Ent.zero.ag) (fun vs w hK => wantsT rfl (fv (hK 2 (by decide)))) (fun hG vs w hK => trivial) rfl (fun hG wq hI => by simp only [execOp, Option.map_some, Option.map_none, lk_tmp, lk_const, lkT_cons, ↓reduceIte, Nat.reduceEqDiff]; go_simp; (first | done | rfl)) ?_
            refine w_valG [(78, _), (79, _)] (_) (fun vs w hK => wantsT rfl (fv (hK 2 (by decide)))) (fun hG vs w hK => ⟨(rho_in rfl (fvg (hK 3 (by decide)) hG)), (rho_in rfl (fvg (hK 4 (by decide)) hG)), trivial⟩) rfl (fun hG wq hI => by exact op_ent_eql rfl rfl rfl HZ.out) ?_
            refine w_and rfl (fun vs w hK => wants_none rfl) (fun vs w hK => (rho_in rfl (fv (hK 2 (by decide))))) (fun hB vs w hK => (rho_in rfl (fvg (hK 5 (by decide)) hB))) ?_
            refine w_move (.inl rfl) (fun vs w hK => ⟨wants_none rfl, rho_in rfl (fv (hK 6 (by decide)))⟩) ?_
            refine w_moveG (.inl rfl) (fun vs w hK => wantsT rfl (fv (hK 7 (by decide)))) (fun hG vs w hK => (rho_out rfl rfl)) ?_
            refine w_valG [(83, _)] (_) (fun vs w hK => wantsT rfl (fv (hK 7 (by decide)))) (fun hG vs w hK => ⟨(rho_in rfl (fvg (hK 8 (by decide)) hG)), trivial⟩) rfl (fun hG wq hI => by exact op_not rfl rfl rfl) ?_
            refine w_and rfl (fun vs w hK => wants_none rfl) (fun vs w hK => (rho_in rfl (fv (hK 7 (by decide))))) (fun hB vs w hK => (rho_in rfl (fvg (hK 9 (by decide)) hB))) ?_
            refine w_as (c' := .bool true) (by rw [HR2.out]; rfl) ?_
            refine w_move (.inr rfl) (fun vs w hK => ⟨wants_none rfl, rho_in rfl (fv (hK 10 (by decide)))⟩) ?_
            refine w_end rfl rfl rfl (fun vs wq hI hF => ?_)
            simp only [List.reverse_cons, List.reverse_nil, List.nil_append, List.cons_append, finL_val, finL_of, finL_any, finL_app, finL_new, finL_gr, finL_row, finL_box, finL_nil, Act.put, List.setIfInBounds_toArray, List.set_cons_zero, List.set_cons_succ, Nat.reduceAdd]
            have HW6 := Lib.hid (below_then HWr.out HWr.out.size hI)
            clear hI hF
            go_wp2_with fail
            go_ret
            exact ⟨rfl, HW6.out⟩
          · subst hE
            have hr2 : rr = true := by rw [← HRR.out, hrt]
            have HR2 := Lib.hid hr2
            have HCK := Lib.hid hck
            have HIN := Lib.hid hin
            clear hrt hck hin hr2 HYE
            go_upto_region 20 with fail
            refine plain_ (fun wq => Below wr.heap.size wr wq) (fun _ => True) reg_5_20 rfl inv0 (fun _ _ _ _ => trivial) (Below.refl _ _) trivial ?_
            refine w_move (.inl rfl) (fun vs w hK => ⟨wants_none rfl, rho_out rfl rfl⟩) ?_
            refine w_move (.inl rfl) (fun vs w hK => ⟨wants_none rfl, rho_in rfl (fv (hK 0 (by decide)))⟩) ?_
            refine w_valG [(3, _)] (_) (fun vs w hK => wantsT rfl (fv (hK 1 (by decide)))) (fun hG vs w hK => ⟨(rho_out rfl rfl), trivial⟩) rfl (fun hG wq hI => by exact run_load_op rfl rfl (load_ent (box_below HXr.out hI))) ?_
            refine w_callG [(88, _)] _ _ (by decide) (fun vs w hK => wantsT rfl (fv (hK 1 (by decide)))) (fun hG vs w hK => ⟨(rho_in rfl (fvg (hK 2 (by decide)) hG)), trivial⟩) rfl rfl Try.func11 (by kernel_rfl) rfl (fun hG wq hI => CKY.out wq) (margs rfl) ?_
            refine w_valG [(89, _)] (_) (fun vs w hK => wantsT rfl (fv (hK 1 (by decide)))) (fun hG vs w hK => ⟨(rho_in rfl (fvg (hK 3 (by decide)) hG)), trivial⟩) rfl (fun hG wq hI => by exact run_int_eql rfl rfl rfl rfl) ?_
            refine w_and rfl (fun vs w hK => wants_none rfl) (fun vs w hK => (rho_in rfl (fv (hK 1 (by decide))))) (fun hB vs w hK => (rho_in rfl (fvg (hK 4 (by decide)) hB))) ?_
            refine w_move (.inl rfl) (fun vs w hK => ⟨wants_none rfl, rho_in rfl (fv (hK 5 (by decide)))⟩) ?_
            refine w_valG [(3, _)] (_) (fun vs w hK => wantsT rfl (fv (hK 6 (by decide)))) (fun hG vs w hK => ⟨(rho_out rfl rfl), trivial⟩) rfl (fun hG wq hI => by exact run_load_op rfl rfl (load_ent (box_below HXr.out hI))) ?_
            refine w_callG [(93, _)] _ _ (by decide) (fun vs w hK => wantsT rfl (fv (hK 6 (by decide)))) (fun hG vs w hK => ⟨(rho_in rfl (fvg (hK 7 (by decide)) hG)), trivial⟩) rfl rfl Try.func13 (by kernel_rfl) rfl (fun hG wq hI => CIY.out wq) (margs rfl) ?_
            refine w_moveG (.inl rfl) (fun vs w hK => wantsT rfl (fv (hK 6 (by decide)))) (fun hG vs w hK => (rho_out rfl rfl)) ?_
            refine w_valG [(94, _), (95, _)] (_) (fun vs w hK => wantsT rfl (fv (hK 6 (by decide)))) (fun hG vs w hK => ⟨(rho_in rfl (fvg (hK 8 (by decide)) hG)), (rho_in rfl (fvg (hK 9 (by decide)) hG)), trivial⟩) rfl (fun hG wq hI => by exact op_str_eq rfl rfl rfl rfl) ?_
            refine w_and rfl (fun vs w hK => wants_none rfl) (fun vs w hK => (rho_in rfl (fv (hK 6 (by decide))))) (fun hB vs w hK => (rho_in rfl (fvg (hK 10 (by decide)) hB))) ?_
            refine w_as (c' := .bool true) (by rw [HR2.out, HCK.out, HIN.out]; simp) ?_
            refine w_move (.inr rfl) (fun vs w hK => ⟨wants_none rfl, rho_in rfl (fv (hK 11 (by decide)))⟩) ?_
            refine w_end rfl rfl rfl (fun vs wq hI hF => ?_)
            simp only [List.reverse_cons, List.reverse_nil, List.nil_append, List.cons_append, finL_val, finL_of, finL_any, finL_app, finL_new, finL_gr, finL_row, finL_box, finL_nil, Act.put, List.setIfInBounds_toArray, List.set_cons_zero, List.set_cons_succ, Nat.reduceAdd]
            have HW6 := Lib.hid (below_then HWr.out HWr.out.size hI)
            clear hI hF
            go_wp2_with fail
            go_ret
            exact ⟨rfl, HW6.out⟩
end Go.Proofs.Ytgnicgcdhldmmaa.Key

