/- The walk of the law KeyChecks. -/
import Derived.Test.YtgnicgcdhldmmaaKeyE
import Derived.Test.YtgnicgcdhldmmaaWalk4
namespace Go.Proofs.Ytgnicgcdhldmmaa.Key
set_option linter.unusedVariables false
set_option linter.unusedSimpArgs false
open Go.Proofs.Ytgnicgcdhldmmaa.Kit Go.Proofs.Ytgnicgcdhldmmaa.Num Go.RowKit Go.Proofs.YtgnicgcdhldmmaaW.PrintWords Go.Proofs.YtgnicgcdhldmmaaW.PrintLast Go.Proofs.YtgnicgcdhldmmaaW.PrintMore NumPure
theorem reg_3_3 : RegOk (opsOf Try.f3 3) [[], [0], [0, 1], [0, 1, 2], [0, 1, 2, 3], [0, 1, 2, 3, 4], [0, 1, 2, 3, 4, 5], [0, 1, 2, 3, 4, 5, 6], [0, 1, 2, 3, 4, 5, 6, 7], [0, 1, 2, 3, 4, 5, 6, 7, 8]] [] [some 10, some 11, some 12, some 13, some 14, some 15, some 16, some 17, some 18, some 19] := regOk (by kernel_rfl)
theorem reg_3_6 : RegOk (opsOf Try.f3 6) [[], [0], [0, 1], [0, 1, 2], [0, 1, 2, 3], [0, 1, 2, 3, 4], [0, 1, 2, 3, 4, 5], [0, 1, 2, 3, 4, 5, 6], [0, 1, 2, 3, 4, 5, 6, 7], [0, 1, 2, 3, 4, 5, 6, 7, 8]] [] [some 20, some 21, some 22, some 23, some 24, some 25, some 26, some 27, some 28, some 29] := regOk (by kernel_rfl)
theorem reg_3_8 : RegOk (opsOf Try.f3 8) [[], [0], [0, 1], [0, 1, 2], [0, 1, 2, 3], [0, 1, 2, 3, 4], [0, 1, 2, 3, 4, 5], [0, 1, 2, 3, 4, 5, 6], [0, 1, 2, 3, 4, 5, 6, 7], [0, 1, 2, 3, 4, 5, 6, 7, 8], [0, 1, 2, 3, 4, 5, 6, 7, 8, 9], [0, 1, 2, 3, 4, 5, 6, 7, 8, 9, 10], [0, 1, 2, 3, 4, 5, 6, 7, 8, 9, 10, 11], [0, 1, 2, 3, 4, 5, 6, 7, 8, 9, 10, 11, 12], [0, 1, 2, 3, 4, 5, 6, 7, 8, 9, 10, 11, 12, 13], [0, 1, 2, 3, 4, 5, 6, 7, 8, 9, 10, 11, 12, 13, 14], [0, 1, 2, 3, 4, 5, 6, 7, 8, 9, 10, 11, 12, 13, 14, 15], [0, 1, 2, 3, 4, 5, 6, 7, 8, 9, 10, 11, 12, 13, 14, 15, 16]] [] [some 30, some 31, some 32, some 33, some 34, some 35, some 36, some 37, some 38, some 39, some 40, some 41, some 42, some 43, some 44, some 45, some 46, some 47] := regOk (by kernel_rfl)
theorem reg_3_10 : RegOk (opsOf Try.f3 10) [[], [0], [], [0, 1, 2], [0, 1, 2, 3], [0, 1, 2, 3, 4], [0, 1, 2, 3, 4], [0, 1, 2, 3, 4, 5, 6], [0, 1, 2, 3, 4], [0, 1, 2, 3, 4], [0, 1, 2, 3, 4, 5, 6, 7, 8, 9], [0, 1, 2, 3, 4, 5, 6, 7, 8, 9, 10], [0, 1, 2, 3, 4, 5, 6, 7, 8, 9, 10, 11], [0, 1, 2, 3, 4, 5, 6, 7, 8, 9, 10, 11, 12], [0, 1, 2, 3, 4, 5, 6, 7, 8, 9, 10, 11, 12, 13], [0, 1, 2, 3, 4, 5, 6, 7, 8, 9, 10, 11, 12, 13, 14], [0, 1, 2, 3, 4, 5, 6, 7, 8, 9, 10, 11, 12, 13, 14], [0, 1, 2, 3, 4, 5, 6, 7, 8, 9, 10, 11, 12, 13, 14, 15, 16], [0, 1, 2, 3, 4, 5, 6, 7, 8, 9, 10, 11, 12, 13, 14, 15, 16, 17], [0, 1, 2, 3, 4, 5, 6, 7, 8, 9, 10, 11, 12, 13, 14], [0, 1, 2, 3, 4, 5, 6, 7, 8, 9, 10, 11, 12, 13, 14, 19], [0, 1, 2, 3, 4, 5, 6, 7, 8, 9, 10, 11, 12, 13, 14], [0, 1, 2, 3, 4, 5, 6, 7, 8, 9, 10, 11, 12, 13, 14, 21], [0, 1, 2, 3, 4, 5, 6, 7, 8, 9, 10, 11, 12, 13, 14, 19, 20, 21, 22], [0, 1, 2, 3, 4, 5, 6, 7, 8, 9, 10, 11, 12, 13, 14, 15, 16, 17, 19, 20, 21, 22, 23], [0, 1, 2, 3, 4, 5, 6, 7, 8, 9, 10, 11, 12, 13, 14, 15, 16, 17, 19, 20, 21, 22, 23, 24], [0, 1, 2, 3, 4, 5, 6, 7, 8, 9, 10, 11, 12, 13, 14, 15, 16, 17, 19, 20, 21, 22, 23, 24, 25], [0, 1, 2, 3, 4, 5, 6, 7, 8, 9, 10, 11, 12, 13, 14, 15, 16, 17, 19, 20, 21, 22, 23, 24], [0, 1, 2, 3, 4, 5, 6, 7, 8, 9, 10, 11, 12, 13, 14, 15, 16, 17, 19, 20, 21, 22, 23, 24, 27], [0, 1, 2, 3, 4, 5, 6, 7, 8, 9, 10, 11, 12, 13, 14, 15, 16, 17, 19, 20, 21, 22, 23, 24, 25, 26, 27, 28], [0, 1, 2, 3, 4, 5, 6, 7, 8, 9, 10, 11, 12, 13, 14, 15, 16, 17, 19, 20, 21, 22, 23, 24, 25, 26, 27, 28, 29], [0, 1, 2, 3, 4, 5, 6, 7, 8, 9, 10, 11, 12, 13, 14, 15, 16, 17, 18, 19, 20, 21, 22, 23, 24, 25, 26, 27, 28, 29, 30], [0, 1, 2, 3, 4, 5, 6, 7, 8, 9, 10, 11, 12, 13, 14, 15, 16, 17, 18, 19, 20, 21, 22, 23, 24, 25, 26, 27, 28, 29, 30, 31]] [] [some 48, some 49, some 50, some 51, some 52, some 53, some 54, some 55, some 56, some 57, some 58, some 59, some 60, some 61, some 62, some 63, some 64, some 65, some 66, some 67, some 68, some 69, some 70, some 71, some 72, some 73, some 74, some 75, some 76, some 77, some 78, some 79, some 80] := regOk (by kernel_rfl)
theorem reg_3_12 : RegOk (opsOf Try.f3 12) [[], [], [0, 1], [0, 1, 2], [0, 1, 2, 3], [0, 1, 2, 3, 4], [0, 1, 2, 3, 4], [0, 1, 2, 3, 4, 5, 6], [0, 1, 2, 3, 4, 5, 6, 7], [0, 1, 2, 3, 4, 5, 6, 7, 8], [0, 1, 2, 3, 4, 5, 6, 7, 8, 9], [0, 1, 2, 3, 4, 5, 6, 7, 8, 9, 10], [0, 1, 2, 3, 4, 5, 6, 7, 8, 9, 10], [0, 1, 2, 3, 4, 5, 6, 7, 8, 9, 10, 11, 12], [0, 1, 2, 3, 4, 5, 6, 7, 8, 9, 10, 11, 12, 13], [0, 1, 2, 3, 4, 5, 6, 7, 8, 9, 10, 11, 12, 13, 14]] [] [some 81, some 82, some 83, some 84, some 85, some 86, some 87, some 88, some 89, some 90, some 91, some 92, some 93, some 94, some 95, some 96] := regOk (by kernel_rfl)
theorem reg_3_14 : RegOk (opsOf Try.f3 14) [[], [0], [], [2], [0, 1, 2, 3], [0, 1, 2, 3, 4], [0, 1, 2, 3, 4, 5], [0, 1, 2, 3, 4, 5], [0, 1, 2, 3, 4, 5, 6, 7], [0, 1, 2, 3, 4, 5, 6, 7, 8], [0, 1, 2, 3, 4, 5], [0, 1, 2, 3, 4, 5, 10], [0, 1, 2, 3, 4, 5], [0, 1, 2, 3, 4, 5, 12], [0, 1, 2, 3, 4, 5, 10, 11, 12, 13], [0, 1, 2, 3, 4, 5, 6, 7, 8, 9, 10, 11, 12, 13, 14], [0, 1, 2, 3, 4, 5, 6, 7, 8, 9, 10, 11, 12, 13, 14, 15], [0, 1, 2, 3, 4, 5, 6, 7, 8, 9, 10, 11, 12, 13, 14, 15, 16]] [] [some 97, some 98, some 99, some 100, some 101, some 102, some 103, some 104, some 105, some 106, some 107, some 108, some 109, some 110, some 111, some 112, some 113, some 6] := regOk (by kernel_rfl)
set_option maxRecDepth 20000 in
set_option maxHeartbeats 80000000 in
theorem checks_any (K : ByteArray) (s' : Int) (d : Bool) (V : ByteArray) (K2 : ByteArray) (s2' : Int) (d2 : Bool) (V2 : ByteArray) (K3 : ByteArray) (s3' : Int) (d3 : Bool) (V3 : ByteArray) (w : World)
    (hk1 : K.size ≤ maxLen) (hs1 : (Lit.int .u64 s').wf = true) (hv1 : V.size ≤ maxLen) (hk2 : K2.size ≤ maxLen) (hs2 : (Lit.int .u64 s2').wf = true) (hv2 : V2.size ≤ maxLen) (hk3 : K3.size ≤ maxLen) (hs3 : (Lit.int .u64 s3').wf = true) (hv3 : V3.size ≤ maxLen) :
    Calls Try.prog 3 #[.agg ([Value.string K] ++ ([Value.int .u64 s'] ++ ([Value.bool d] ++ ([Value.string V] ++ [])))).toArray, .agg ([Value.string K2] ++ ([Value.int .u64 s2'] ++ ([Value.bool d2] ++ ([Value.string V2] ++ [])))).toArray, .agg ([Value.string K3] ++ ([Value.int .u64 s3'] ++ ([Value.bool d3] ++ ([Value.string V3] ++ [])))).toArray] w fun e w' => e = .returned (.bool true) ∧ Below w.heap.size w w' := by
  obtain ⟨q0, q1⟩ := wf_u64 hs1
  obtain ⟨s, rfl⟩ : ∃ s : Nat, s' = s := ⟨s'.toNat, by omega⟩
  obtain ⟨q2, q3⟩ := wf_u64 hs2
  obtain ⟨s2, rfl⟩ : ∃ s : Nat, s2' = s := ⟨s2'.toNat, by omega⟩
  obtain ⟨q4, q5⟩ := wf_u64 hs3
  obtain ⟨s3, rfl⟩ : ∃ s : Nat, s3' = s := ⟨s3'.toNat, by omega⟩
  have ox : Ent.ok ⟨K, s, d, V⟩ := ⟨by show s < _; omega, hk1, hv1⟩
  have oy : Ent.ok ⟨K2, s2, d2, V2⟩ := ⟨by show s2 < _; omega, hk2, hv2⟩
  have oz : Ent.ok ⟨K3, s3, d3, V3⟩ := ⟨by show s3 < _; omega, hk3, hv3⟩
  have hkn : K.size ≤ 9223372036854775807 := hk1
  have hvn : V.size ≤ 9223372036854775807 := hv1
  change Calls Try.prog 3 #[Ent.ag ⟨K, s, d, V⟩, Ent.ag ⟨K2, s2, d2, V2⟩, Ent.ag ⟨K3, s3, d3, V3⟩] w _
  obtain ⟨y, hy⟩ : ∃ y : Ent, y = ⟨K2, s2, d2, V2⟩ := ⟨_, rfl⟩
  obtain ⟨z, hz⟩ : ∃ z : Ent, z = ⟨K3, s3, d3, V3⟩ := ⟨_, rfl⟩
  obtain ⟨x, hx⟩ : ∃ x : Ent, x = ⟨K, s, d, V⟩ := ⟨_, rfl⟩
  have OX : Hid x.ok := Lib.hid (by rw [hx]; exact ox)
  have OY : Hid y.ok := Lib.hid (by rw [hy]; exact oy)
  have OZ : Hid z.ok := Lib.hid (by rw [hz]; exact oz)
  rw [← hy, ← hz, ← hx]
  change Calls Try.prog 3 #[.agg x.cells.toArray, .agg y.cells.toArray, .agg z.cells.toArray] w _
  have hsl : s < 18446744073709551616 := by omega
  have HSL := Lib.hid hsl
  have HXX := Lib.hid hx
  have HYY := Lib.hid hy
  clear hs1 hs2 hs3 q0 q1 q2 q3 q4 q5 hy hz hk2 hk3 hv2 hv3 hk1 hv1 hsl ox oy oz hx
  have HBB := Lib.hid (box3_new w x y z)
  have HB0 : Hid (Below w.heap.size w (((w.alloc (.cells x.cells.toArray 24)).alloc (.cells y.cells.toArray 24)).alloc (.cells z.cells.toArray 24))) := Lib.hid (below_alloc (below_alloc (below_alloc (Below.refl _ _) _) _) _)
  go_enter Try.func3, Try.ntmps3
  go_wp2_with fail
  refine (head_any _).mono ?_
  rintro e w1 ⟨rfl, hb1⟩
  have HG := Lib.hid (HBB.out.below hb1)
  have HW1 := Lib.hid (below_then HB0.out HB0.out.size hb1)
  clear hb1 HBB HB0
  have CX := Lib.hid (fun wq => big_any x OX.out wq)
  have CY := Lib.hid (fun wq => big_any y OY.out wq)
  have CZ := Lib.hid (fun wq => big_any z OZ.out wq)
  generalize decide (300 < x.key.size ∨ 70000 < x.val.size) = bx at CX
  generalize decide (300 < y.key.size ∨ 70000 < y.val.size) = bY at CY
  generalize decide (300 < z.key.size ∨ 70000 < z.val.size) = bz at CZ
  go_upto_region 3 with fail
  have HG1 := Lib.hid HG.out
  clear HG
  refine plain_ (fun wq => Below w1.heap.size w1 wq) (fun _ => True) reg_3_3 rfl inv0 (fun _ _ _ _ => trivial) (Below.refl _ _) trivial ?_
  refine w_val [(3, _)] (_) (fun vs w hK => ⟨wants_none rfl, rho_out rfl rfl, trivial⟩) rfl (fun wq hI => by exact run_load_op rfl rfl (load_ent (HG1.out.below hI).a)) ?_
  refine w_call [(10, _)] _ _ (by decide) (fun vs w hK => ⟨wants_none rfl, rho_in rfl (fv (hK 0 (by decide))), trivial⟩) rfl rfl Try.func10 (by kernel_rfl) rfl (fun wq hI => CX.out wq) (margs rfl) ?_
  refine w_move (.inl rfl) (fun vs w hK => ⟨wants_none rfl, rho_in rfl (fv (hK 1 (by decide)))⟩) ?_
  refine w_valG [(4, _)] (_) (fun vs w hK => wantsF rfl (fv (hK 2 (by decide)))) (fun hG vs w hK => ⟨(rho_out rfl rfl), trivial⟩) rfl (fun hG wq hI => by exact run_load_op rfl rfl (load_ent (HG1.out.below hI).b)) ?_
  refine w_callG [(13, _)] _ _ (by decide) (fun vs w hK => wantsF rfl (fv (hK 2 (by decide)))) (fun hG vs w hK => ⟨(rho_in rfl (fvg (hK 3 (by decide)) hG)), trivial⟩) rfl rfl Try.func10 (by kernel_rfl) rfl (fun hG wq hI => CY.out wq) (margs rfl) ?_
  refine w_or rfl (fun vs w hK => wants_none rfl) (fun vs w hK => (rho_in rfl (fv (hK 2 (by decide))))) (fun hB vs w hK => (rho_in rfl (fvg (hK 4 (by decide)) (gnot hB)))) ?_
  refine w_move (.inl rfl) (fun vs w hK => ⟨wants_none rfl, rho_in rfl (fv (hK 5 (by decide)))⟩) ?_
  refine w_valG [(5, _)] (_) (fun vs w hK => wantsF rfl (fv (hK 6 (by decide)))) (fun hG vs w hK => ⟨(rho_out rfl rfl), trivial⟩) rfl (fun hG wq hI => by exact run_load_op rfl rfl (load_ent (HG1.out.below hI).c)) ?_
  refine w_callG [(17, _)] _ _ (by decide) (fun vs w hK => wantsF rfl (fv (hK 6 (by decide)))) (fun hG vs w hK => ⟨(rho_in rfl (fvg (hK 7 (by decide)) hG)), trivial⟩) rfl rfl Try.func10 (by kernel_rfl) rfl (fun hG wq hI => CZ.out wq) (margs rfl) ?_
  refine w_or rfl (fun vs w hK => wants_none rfl) (fun vs w hK => (rho_in rfl (fv (hK 6 (by decide))))) (fun hB vs w hK => (rho_in rfl (fvg (hK 8 (by decide)) (gnot hB)))) ?_
  refine w_end rfl rfl rfl (fun vs wq hI hF => ?_)
  simp only [List.reverse_cons, List.reverse_nil, List.nil_append, List.cons_append, finL_val, finL_of, finL_any, finL_app, finL_new, finL_gr, finL_row, finL_box, finL_nil, Act.put, List.setIfInBounds_toArray, List.set_cons_zero, List.set_cons_succ, Nat.reduceAdd]
  have HG2 := Lib.hid (HG1.out.below hI)
  have HW2 := Lib.hid (below_then HW1.out HW1.out.size hI)
  clear hI hF
  obtain ⟨w2, rfl⟩ : ∃ w2 : World, w2 = wq := ⟨_, rfl⟩
  clear CX CY CZ
  generalize (bx || bY || bz) = bb
  cases bb
  rotate_left
  · go_wp2_with fail
    go_ret
    exact ⟨rfl, HW2.out⟩
  have Cxy := Lib.hid (fun wq => cmp_any x y OX.out OY.out wq)
  have Cyx := Lib.hid (fun wq => cmp_any y x OY.out OX.out wq)
  have Cyz := Lib.hid (fun wq => cmp_any y z OY.out OZ.out wq)
  have Cxz := Lib.hid (fun wq => cmp_any x z OX.out OZ.out wq)
  have HTR : Hid (((decide (x.cmp y < 0) && decide (y.cmp z < 0)) && decide (0 ≤ x.cmp z)) = false) := Lib.hid (by
    by_cases h1 : x.cmp y < 0
    · by_cases h2 : y.cmp z < 0
      · have h3 := Ent.cmp_trans x y z h1 h2
        simp [h1, h2]
        omega
      · simp [h1, h2]
    · simp [h1])
  have HLS : Hid ((decide (K = K2) || ((decide (x.cmp y < 0)) == Op.bytesLess K.toList K2.toList)) = true) := Lib.hid (by
    by_cases h : K = K2
    · simp [h]
    · have := Ent.cmp_less x y (by rw [HXX.out, HYY.out]; exact h)
      rw [show x.key = K by rw [HXX.out], show y.key = K2 by rw [HYY.out]] at this
      rw [this]
      simp)
  have HZ0 : Hid (((x.cmp y == 0) != (decide (K = K2) && ((s : Int) == (s2 : Int)))) = false) := Lib.hid (by
    have := Ent.cmp_zero x y
    rw [show x.key = K by rw [HXX.out], show y.key = K2 by rw [HYY.out], show x.seq = s by rw [HXX.out], show y.seq = s2 by rw [HYY.out]] at this
    by_cases h1 : x.cmp y = 0
    · obtain ⟨e1, e2⟩ := this.1 h1
      simp [h1, e1, e2]
    · by_cases h2 : K = K2
      · have h3 : ¬ s = s2 := fun e => h1 (this.2 ⟨h2, e⟩)
        have h4 : ¬ (s : Int) = (s2 : Int) := by omega
        have e1 : (x.cmp y == 0) = false := by simpa using h1
        have e2 : ((s : Int) == (s2 : Int)) = false := by rw [beq_eq_false_iff_ne]; exact h4
        rw [e1, e2]
        simp
      · simp [h1, h2])
  have HC1 := Lib.hid (Ent.cmp_val x y)
  rw [Ent.cmp_anti x y] at Cyx
  generalize x.cmp y = c at Cxy Cyx HTR HLS HZ0 HC1
  generalize y.cmp z = e at Cyz HTR
  generalize x.cmp z = f at Cxz HTR
  have C11 := Lib.hid (fun wq => check_any x OX.out wq)
  obtain ⟨B6, hB6⟩ : ∃ B6 : Bool, (decide ((128 : Int) < (K.size : Int)) || decide ((65536 : Int) < (V.size : Int))) = B6 := ⟨_, rfl⟩
  obtain ⟨B8, hB8⟩ : ∃ B8 : Bool, (decide (K = ⟨#[]⟩) || decide ((72057594037927936 : Int) ≤ (s : Int)) || (d && decide ((0 : Int) < (V.size : Int)))) = B8 := ⟨_, rfl⟩
  have HCK : Hid (x.check = if B8 = true then 1 else if B6 = true then 6 else 0) := Lib.hid (by
    have hk0 : K = ⟨#[]⟩ ↔ K.size = 0 := ⟨fun h => by rw [h]; rfl, fun h => by
      apply ByteArray.ext
      exact Array.eq_empty_of_size_eq_zero h⟩
    have hv0 : 0 < V.size ↔ V.size ≠ 0 := by omega
    subst hB6 hB8
    rw [HXX.out]
    unfold Ent.check
    simp only [Bool.or_eq_true, decide_eq_true_eq, Bool.and_eq_true, hk0]
    have e1 : ((72057594037927936 : Int) ≤ (s : Int)) ↔ 72057594037927935 < s := by omega
    have e2 : ((128 : Int) < (K.size : Int)) ↔ 128 < K.size := by omega
    have e3 : ((65536 : Int) < (V.size : Int)) ↔ 65536 < V.size := by omega
    have e4 : ((0 : Int) < (V.size : Int)) ↔ V.size ≠ 0 := by omega
    simp only [e1, e2, e3, e4, or_assoc])
  rw [HCK.out] at C11
  clear HCK
  go_upto_region 6 with fail
  refine plain_ (fun wq => Below w2.heap.size w2 wq) (fun _ => True) reg_3_6 rfl inv0 (fun _ _ _ _ => trivial) (Below.refl _ _) trivial ?_
  refine w_val [(3, _)] _ (fun vs w hK => ⟨wants_none rfl, rho_out rfl rfl, trivial⟩) rfl (fun wq hI => by simp only [execOp, Option.map_some, Option.map_none, lk_tmp, lk_const, lkT_cons, ↓reduceIte, Nat.reduceEqDiff]; go_simp; (first | done | rfl)) ?_
  refine w_val [(20, _)] (_) (fun vs w hK => ⟨wants_none rfl, rho_in rfl (fv (hK 0 (by decide))), trivial⟩) rfl (fun wq hI => by exact run_load_cell rfl rfl rfl Try.underlying9 rfl (cell_ent (HG2.out.below hI).a (by rw [HXX.out]; rfl))) ?_
  refine w_val [(21, _)] (_) (fun vs w hK => ⟨wants_none rfl, rho_in rfl (fv (hK 1 (by decide))), trivial⟩) rfl (fun wq hI => by exact run_len_str rfl Try.underlying9 rfl rfl) ?_
  refine w_val [(22, _)] (_) (fun vs w hK => ⟨wants_none rfl, rho_in rfl (fv (hK 2 (by decide))), trivial⟩) rfl (fun wq hI => by exact run_int_gtr rfl rfl rfl rfl) ?_
  refine w_move (.inl rfl) (fun vs w hK => ⟨wants_none rfl, rho_in rfl (fv (hK 3 (by decide)))⟩) ?_
  refine w_valG [(3, _)] (_) (fun vs w hK => wantsF rfl (fv (hK 4 (by decide)))) (fun hG vs w hK => ⟨(rho_out rfl rfl), trivial⟩) rfl (fun hG wq hI => by simp only [execOp, Option.map_some, Option.map_none, lk_tmp, lk_const, lkT_cons, ↓reduceIte, Nat.reduceEqDiff]; go_simp; (first | done | rfl)) ?_
  refine w_valG [(25, _)] (_) (fun vs w hK => wantsF rfl (fv (hK 4 (by decide)))) (fun hG vs w hK => ⟨(rho_in rfl (fvg (hK 5 (by decide)) hG)), trivial⟩) rfl (fun hG wq hI => by exact run_load_cell rfl rfl rfl Try.underlying9 rfl (cell_ent (HG2.out.below hI).a (by rw [HXX.out]; rfl))) ?_
  refine w_valG [(26, _)] (_) (fun vs w hK => wantsF rfl (fv (hK 4 (by decide)))) (fun hG vs w hK => ⟨(rho_in rfl (fvg (hK 6 (by decide)) hG)), trivial⟩) rfl (fun hG wq hI => by exact run_len_str rfl Try.underlying9 rfl rfl) ?_
  refine w_valG [(27, _)] (_) (fun vs w hK => wantsF rfl (fv (hK 4 (by decide)))) (fun hG vs w hK => ⟨(rho_in rfl (fvg (hK 7 (by decide)) hG)), trivial⟩) rfl (fun hG wq hI => by exact run_int_gtr rfl rfl rfl rfl) ?_
  refine w_or rfl (fun vs w hK => wants_none rfl) (fun vs w hK => (rho_in rfl (fv (hK 4 (by decide))))) (fun hB vs w hK => (rho_in rfl (fvg (hK 8 (by decide)) (gnot hB)))) ?_
  refine w_as (c' := .bool B6) (congrArg Value.bool hB6) ?_
  refine w_end rfl rfl rfl (fun vs wq hI hF => ?_)
  simp only [List.reverse_cons, List.reverse_nil, List.nil_append, List.cons_append, finL_val, finL_of, finL_any, finL_app, finL_new, finL_gr, finL_row, finL_box, finL_nil, Act.put, List.setIfInBounds_toArray, List.set_cons_zero, List.set_cons_succ, Nat.reduceAdd]
  have HG3 := Lib.hid (HG2.out.below hI)
  have HW3 := Lib.hid (below_then HW2.out HW2.out.size hI)
  clear hI hF
  obtain ⟨w3, rfl⟩ : ∃ w3 : World, w3 = wq := ⟨_, rfl⟩
  have HB8 := Lib.hid hB8
  clear hB8 hB6
  cases B6
  · skip
    go_upto_region 8 with fail
    refine plain_ (fun wq => Below w3.heap.size w3 wq) (fun _ => True) reg_3_8 rfl inv0 (fun _ _ _ _ => trivial) (Below.refl _ _) trivial ?_
    refine w_val [(3, _)] _ (fun vs w hK => ⟨wants_none rfl, rho_out rfl rfl, trivial⟩) rfl (fun wq hI => by simp only [execOp, Option.map_some, Option.map_none, lk_tmp, lk_const, lkT_cons, ↓reduceIte, Nat.reduceEqDiff]; go_simp; (first | done | rfl)) ?_
    refine w_val [(30, _)] (_) (fun vs w hK => ⟨wants_none rfl, rho_in rfl (fv (hK 0 (by decide))), trivial⟩) rfl (fun wq hI => by exact run_load_cell rfl rfl rfl Try.underlying9 rfl (cell_ent (HG3.out.below hI).a (by rw [HXX.out]; rfl))) ?_
    refine w_val [(31, _)] (_) (fun vs w hK => ⟨wants_none rfl, rho_in rfl (fv (hK 1 (by decide))), trivial⟩) rfl (fun wq hI => by exact op_str_eq rfl rfl rfl rfl) ?_
    refine w_move (.inl rfl) (fun vs w hK => ⟨wants_none rfl, rho_in rfl (fv (hK 2 (by decide)))⟩) ?_
    refine w_valG [(3, _)] (_) (fun vs w hK => wantsF rfl (fv (hK 3 (by decide)))) (fun hG vs w hK => ⟨(rho_out rfl rfl), trivial⟩) rfl (fun hG wq hI => by simp only [execOp, Option.map_some, Option.map_none, lk_tmp, lk_const, lkT_cons, ↓reduceIte, Nat.reduceEqDiff]; go_simp; (first | done | rfl)) ?_
    refine w_valG [(34, _)] (_) (fun vs w hK => wantsF rfl (fv (hK 3 (by decide)))) (fun hG vs w hK => ⟨(rho_in rfl (fvg (hK 4 (by decide)) hG)), trivial⟩) rfl (fun hG wq hI => by exact run_load_cell rfl rfl rfl Try.underlying22 rfl (cell_ent (HG3.out.below hI).a (by rw [HXX.out]; rfl))) ?_
    refine w_valG [(35, _)] (_) (fun vs w hK => wantsF rfl (fv (hK 3 (by decide)))) (fun hG vs w hK => ⟨(rho_in rfl (fvg (hK 5 (by decide)) hG)), trivial⟩) rfl (fun hG wq hI => by exact run_int_geq rfl rfl rfl rfl) ?_
    refine w_or rfl (fun vs w hK => wants_none rfl) (fun vs w hK => (rho_in rfl (fv (hK 3 (by decide))))) (fun hB vs w hK => (rho_in rfl (fvg (hK 6 (by decide)) (gnot hB)))) ?_
    refine w_move (.inl rfl) (fun vs w hK => ⟨wants_none rfl, rho_in rfl (fv (hK 7 (by decide)))⟩) ?_
    refine w_valG [(3, _)] (_) (fun vs w hK => wantsF rfl (fv (hK 8 (by decide)))) (fun hG vs w hK => ⟨(rho_out rfl rfl), trivial⟩) rfl (fun hG wq hI => by simp only [execOp, Option.map_some, Option.map_none, lk_tmp, lk_const, lkT_cons, ↓reduceIte, Nat.reduceEqDiff]; go_simp; (first | done | rfl)) ?_
    refine w_valG [(39, _)] (_) (fun vs w hK => wantsF rfl (fv (hK 8 (by decide)))) (fun hG vs w hK => ⟨(rho_in rfl (fvg (hK 9 (by decide)) hG)), trivial⟩) rfl (fun hG wq hI => by exact run_load_cell rfl rfl rfl Try.underlying4 rfl (cell_ent (HG3.out.below hI).a (by rw [HXX.out]; rfl))) ?_
    refine w_moveG (.inl rfl) (fun vs w hK => wantsF rfl (fv (hK 8 (by decide)))) (fun hG vs w hK => (rho_in rfl (fvg (hK 10 (by decide)) hG))) ?_
    refine w_valG [(3, _)] (_) (fun vs w hK => wantsTg rfl (fv (hK 11 (by decide)))) (fun hG vs w hK => ⟨(rho_out rfl rfl), trivial⟩) rfl (fun hG wq hI => by simp only [execOp, Option.map_some, Option.map_none, lk_tmp, lk_const, lkT_cons, ↓reduceIte, Nat.reduceEqDiff]; go_simp; (first | done | rfl)) ?_
    refine w_valG [(42, _)] (_) (fun vs w hK => wantsTg rfl (fv (hK 11 (by decide)))) (fun hG vs w hK => ⟨(rho_in rfl (fvg (hK 12 (by decide)) hG)), trivial⟩) rfl (fun hG wq hI => by exact run_load_cell rfl rfl rfl Try.underlying9 rfl (cell_ent (HG3.out.below hI).a (by rw [HXX.out]; rfl))) ?_
    refine w_valG [(43, _)] (_) (fun vs w hK => wantsTg rfl (fv (hK 11 (by decide)))) (fun hG vs w hK => ⟨(rho_in rfl (fvg (hK 13 (by decide)) hG)), trivial⟩) rfl (fun hG wq hI => by exact run_len_str rfl Try.underlying9 rfl rfl) ?_
    refine w_valG [(44, _)] (_) (fun vs w hK => wantsTg rfl (fv (hK 11 (by decide)))) (fun hG vs w hK => ⟨(rho_in rfl (fvg (hK 14 (by decide)) hG)), trivial⟩) rfl (fun hG wq hI => by exact run_int_gtr rfl rfl rfl rfl) ?_
    refine w_andG rfl (fun vs w hK => wantsF rfl (fv (hK 8 (by decide)))) (fun hG vs w hK => (rho_in rfl (fvg (hK 11 (by decide)) hG))) (fun hG hB vs w hK => (rho_in rfl (fvg (hK 15 (by decide)) (gand hG hB)))) ?_
    refine w_or rfl (fun vs w hK => wants_none rfl) (fun vs w hK => (rho_in rfl (fv (hK 8 (by decide))))) (fun hB vs w hK => (rho_in rfl (fvg (hK 16 (by decide)) (gnot hB)))) ?_
    refine w_as (c' := .bool B8) (congrArg Value.bool HB8.out) ?_
    refine w_end rfl rfl rfl (fun vs wq hI hF => ?_)
    simp only [List.reverse_cons, List.reverse_nil, List.nil_append, List.cons_append, finL_val, finL_of, finL_any, finL_app, finL_new, finL_gr, finL_row, finL_box, finL_nil, Act.put, List.setIfInBounds_toArray, List.set_cons_zero, List.set_cons_succ, Nat.reduceAdd]
    have HG4 := Lib.hid (HG3.out.below hI)
    have HW4 := Lib.hid (below_then HW3.out HW3.out.size hI)
    clear hI hF
    obtain ⟨w4, rfl⟩ : ∃ w4 : World, w4 = wq := ⟨_, rfl⟩
    cases B8
    · skip
      go_upto_region 10 with fail
      refine draws_ (fun wq => Below w4.heap.size w4 wq) (fun _ => True) (by kernel_rfl) reg_3_10 rfl inv0 (fun _ _ _ _ => trivial) (below_drew (Below.refl _ _)) trivial ?_
      refine w_val [(3, _)] (_) (fun vs w hK => ⟨wants_none rfl, rho_out rfl rfl, trivial⟩) rfl (fun wq hI => by exact run_load_op rfl rfl (load_ent (HG4.out.below hI).a)) ?_
      refine w_call [(48, _)] _ _ (by decide) (fun vs w hK => ⟨wants_none rfl, rho_in rfl (fv (hK 0 (by decide))), trivial⟩) rfl rfl Try.func11 (by kernel_rfl) rfl (fun wq hI => C11.out wq) (margs rfl) ?_
      refine w_move (.inl rfl) (fun vs w hK => ⟨wants_none rfl, rho_out rfl rfl⟩) ?_
      refine w_val [(49, _), (50, _)] (_) (fun vs w hK => ⟨wants_none rfl, rho_in rfl (fv (hK 1 (by decide))), rho_in rfl (fv (hK 2 (by decide))), trivial⟩) rfl (fun wq hI => by exact run_int_neq (r := false) rfl rfl rfl rfl) ?_
      refine w_move (.inl rfl) (fun vs w hK => ⟨wants_none rfl, rho_in rfl (fv (hK 3 (by decide)))⟩) ?_
      refine w_valG [(3, _)] (_) (fun vs w hK => wantsF rfl (fv (hK 4 (by decide)))) (fun hG vs w hK => ⟨(rho_out rfl rfl), trivial⟩) rfl (fun hG wq hI => by exact run_load_op rfl rfl (load_ent (HG4.out.below hI).a)) ?_
      refine w_valG [(4, _)] (_) (fun vs w hK => wantsF rfl (fv (hK 4 (by decide)))) (fun hG vs w hK => ⟨(rho_out rfl rfl), trivial⟩) rfl (fun hG wq hI => by exact run_load_op rfl rfl (load_ent (HG4.out.below hI).b)) ?_
      refine w_callG [(53, _), (54, _)] _ _ (by decide) (fun vs w hK => wantsF rfl (fv (hK 4 (by decide)))) (fun hG vs w hK => ⟨(rho_in rfl (fvg (hK 5 (by decide)) hG)), (rho_in rfl (fvg (hK 6 (by decide)) hG)), trivial⟩) rfl rfl Try.func12 (by kernel_rfl) rfl (fun hG wq hI => Cxy.out wq) (margs rfl) ?_
      refine w_valG [(4, _)] (_) (fun vs w hK => wantsF rfl (fv (hK 4 (by decide)))) (fun hG vs w hK => ⟨(rho_out rfl rfl), trivial⟩) rfl (fun hG wq hI => by exact run_load_op rfl rfl (load_ent (HG4.out.below hI).b)) ?_
      refine w_valG [(3, _)] (_) (fun vs w hK => wantsF rfl (fv (hK 4 (by decide)))) (fun hG vs w hK => ⟨(rho_out rfl rfl), trivial⟩) rfl (fun hG wq hI => by exact run_load_op rfl rfl (load_ent (HG4.out.below hI).a)) ?_
      refine w_callG [(56, _), (57, _)] _ _ (by decide) (fun vs w hK => wantsF rfl (fv (hK 4 (by decide)))) (fun hG vs w hK => ⟨(rho_in rfl (fvg (hK 8 (by decide)) hG)), (rho_in rfl (fvg (hK 9 (by decide)) hG)), trivial⟩) rfl rfl Try.func12 (by kernel_rfl) rfl (fun hG wq hI => Cyx.out wq) (margs rfl) ?_
      refine w_valG [(58, _)] (_) (fun vs w hK => wantsF rfl (fv (hK 4 (by decide)))) (fun hG vs w hK => ⟨(rho_in rfl (fvg (hK 10 (by decide)) hG)), trivial⟩) rfl (fun hG wq hI => by exact run_int_neg (c := c) rfl rfl (by have := HC1.out; rw [Int.neg_neg]; exact i64_id (by omega) (by omega))) ?_
      refine w_valG [(55, _), (59, _)] (_) (fun vs w hK => wantsF rfl (fv (hK 4 (by decide)))) (fun hG vs w hK => ⟨(rho_in rfl (fvg (hK 7 (by decide)) hG)), (rho_in rfl (fvg (hK 11 (by decide)) hG)), trivial⟩) rfl (fun hG wq hI => by exact run_int_neq (r := false) rfl rfl rfl (by simp)) ?_
      refine w_or rfl (fun vs w hK => wants_none rfl) (fun vs w hK => (rho_in rfl (fv (hK 4 (by decide))))) (fun hB vs w hK => (rho_in rfl (fvg (hK 12 (by decide)) (gnot hB)))) ?_
      refine w_move (.inl rfl) (fun vs w hK => ⟨wants_none rfl, rho_in rfl (fv (hK 13 (by decide)))⟩) ?_
      refine w_valG [(3, _)] (_) (fun vs w hK => wantsF rfl (fv (hK 14 (by decide)))) (fun hG vs w hK => ⟨(rho_out rfl rfl), trivial⟩) rfl (fun hG wq hI => by exact run_load_op rfl rfl (load_ent (HG4.out.below hI).a)) ?_
      refine w_valG [(4, _)] (_) (fun vs w hK => wantsF rfl (fv (hK 14 (by decide)))) (fun hG vs w hK => ⟨(rho_out rfl rfl), trivial⟩) rfl (fun hG wq hI => by exact run_load_op rfl rfl (load_ent (HG4.out.below hI).b)) ?_
      refine w_callG [(63, _), (64, _)] _ _ (by decide) (fun vs w hK => wantsF rfl (fv (hK 14 (by decide)))) (fun hG vs w hK => ⟨(rho_in rfl (fvg (hK 15 (by decide)) hG)), (rho_in rfl (fvg (hK 16 (by decide)) hG)), trivial⟩) rfl rfl Try.func12 (by kernel_rfl) rfl (fun hG wq hI => Cxy.out wq) (margs rfl) ?_
      refine w_valG [(65, _)] (_) (fun vs w hK => wantsF rfl (fv (hK 14 (by decide)))) (fun hG vs w hK => ⟨(rho_in rfl (fvg (hK 17 (by decide)) hG)), trivial⟩) rfl (fun hG wq hI => by exact run_int_eql rfl rfl rfl rfl) ?_
      refine w_valG [(3, _)] (_) (fun vs w hK => wantsF rfl (fv (hK 14 (by decide)))) (fun hG vs w hK => ⟨(rho_out rfl rfl), trivial⟩) rfl (fun hG wq hI => by simp only [execOp, Option.map_some, Option.map_none, lk_tmp, lk_const, lkT_cons, ↓reduceIte, Nat.reduceEqDiff]; go_simp; (first | done | rfl)) ?_
      refine w_valG [(67, _)] (_) (fun vs w hK => wantsF rfl (fv (hK 14 (by decide)))) (fun hG vs w hK => ⟨(rho_in rfl (fvg (hK 19 (by decide)) hG)), trivial⟩) rfl (fun hG wq hI => by exact run_load_cell rfl rfl rfl Try.underlying9 rfl (cell_ent (HG4.out.below hI).a (by rw [HXX.out]; rfl))) ?_
      refine w_valG [(4, _)] (_) (fun vs w hK => wantsF rfl (fv (hK 14 (by decide)))) (fun hG vs w hK => ⟨(rho_out rfl rfl), trivial⟩) rfl (fun hG wq hI => by simp only [execOp, Option.map_some, Option.map_none, lk_tmp, lk_const, lkT_cons, ↓reduceIte, Nat.reduceEqDiff]; go_simp; (first | done | rfl)) ?_
      refine w_valG [(69, _)] (_) (fun vs w hK => wantsF rfl (fv (hK 14 (by decide)))) (fun hG vs w hK => ⟨(rho_in rfl (fvg (hK 21 (by decide)) hG)), trivial⟩) rfl (fun hG wq hI => by exact run_load_cell rfl rfl rfl Try.underlying9 rfl (cell_ent (HG4.out.below hI).b (by rw [HYY.out]; rfl))) ?_
      refine w_valG [(68, _), (70, _)] (_) (fun vs w hK => wantsF rfl (fv (hK 14 (by decide)))) (fun hG vs w hK => ⟨(rho_in rfl (fvg (hK 20 (by decide)) hG)), (rho_in rfl (fvg (hK 22 (by decide)) hG)), trivial⟩) rfl (fun hG wq hI => by exact op_str_eq rfl rfl rfl rfl) ?_
      refine w_moveG (.inl rfl) (fun vs w hK => wantsF rfl (fv (hK 14 (by decide)))) (fun hG vs w hK => (rho_in rfl (fvg (hK 23 (by decide)) hG))) ?_
      refine w_valG [(3, _)] (_) (fun vs w hK => wantsTg rfl (fv (hK 24 (by decide)))) (fun hG vs w hK => ⟨(rho_out rfl rfl), trivial⟩) rfl (fun hG wq hI => by simp only [execOp, Option.map_some, Option.map_none, lk_tmp, lk_const, lkT_cons, ↓reduceIte, Nat.reduceEqDiff]; go_simp; (first | done | rfl)) ?_
      refine w_valG [(73, _)] (_) (fun vs w hK => wantsTg rfl (fv (hK 24 (by decide)))) (fun hG vs w hK => ⟨(rho_in rfl (fvg (hK 25 (by decide)) hG)), trivial⟩) rfl (fun hG wq hI => by exact run_load_cell rfl rfl rfl Try.underlying22 rfl (cell_ent (HG4.out.below hI).a (by rw [HXX.out]; rfl))) ?_
      refine w_valG [(4, _)] (_) (fun vs w hK => wantsTg rfl (fv (hK 24 (by decide)))) (fun hG vs w hK => ⟨(rho_out rfl rfl), trivial⟩) rfl (fun hG wq hI => by simp only [execOp, Option.map_some, Option.map_none, lk_tmp, lk_const, lkT_cons, ↓reduceIte, Nat.reduceEqDiff]; go_simp; (first | done | rfl)) ?_
      refine w_valG [(75, _)] (_) (fun vs w hK => wantsTg rfl (fv (hK 24 (by decide)))) (fun hG vs w hK => ⟨(rho_in rfl (fvg (hK 27 (by decide)) hG)), trivial⟩) rfl (fun hG wq hI => by exact run_load_cell rfl rfl rfl Try.underlying22 rfl (cell_ent (HG4.out.below hI).b (by rw [HYY.out]; rfl))) ?_
      refine w_valG [(74, _), (76, _)] (_) (fun vs w hK => wantsTg rfl (fv (hK 24 (by decide)))) (fun hG vs w hK => ⟨(rho_in rfl (fvg (hK 26 (by decide)) hG)), (rho_in rfl (fvg (hK 28 (by decide)) hG)), trivial⟩) rfl (fun hG wq hI => by exact run_int_eql rfl rfl rfl rfl) ?_
      refine w_andG rfl (fun vs w hK => wantsF rfl (fv (hK 14 (by decide)))) (fun hG vs w hK => (rho_in rfl (fvg (hK 24 (by decide)) hG))) (fun hG hB vs w hK => (rho_in rfl (fvg (hK 29 (by decide)) (gand hG hB)))) ?_
      refine w_valG [(66, _), (78, _)] (_) (fun vs w hK => wantsF rfl (fv (hK 14 (by decide)))) (fun hG vs w hK => ⟨(rho_in rfl (fvg (hK 18 (by decide)) hG)), (rho_in rfl (fvg (hK 30 (by decide)) hG)), trivial⟩) rfl (fun hG wq hI => by exact op_bool_neq (r := false) rfl rfl Try.underlying4 rfl HZ0.out) ?_
      refine w_or rfl (fun vs w hK => wants_none rfl) (fun vs w hK => (rho_in rfl (fv (hK 14 (by decide))))) (fun hB vs w hK => (rho_in rfl (fvg (hK 31 (by decide)) (gnot hB)))) ?_
      refine w_end rfl rfl rfl (fun vs wq hI hF => ?_)
      simp only [List.reverse_cons, List.reverse_nil, List.nil_append, List.cons_append, finL_val, finL_of, finL_any, finL_app, finL_new, finL_gr, finL_row, finL_box, finL_nil, Act.put, List.setIfInBounds_toArray, List.set_cons_zero, List.set_cons_succ, Nat.reduceAdd]
      have HG5 := Lib.hid (HG4.out.below hI)
      have HW5 := Lib.hid (below_then HW4.out HW4.out.size hI)
      clear hI hF
      obtain ⟨w5, rfl⟩ : ∃ w5 : World, w5 = wq := ⟨_, rfl⟩
      go_upto_region 12 with fail
      refine plain_ (fun wq => Below w5.heap.size w5 wq) (fun _ => True) reg_3_12 rfl inv0 (fun _ _ _ _ => trivial) (Below.refl _ _) trivial ?_
      refine w_val [(3, _)] (_) (fun vs w hK => ⟨wants_none rfl, rho_out rfl rfl, trivial⟩) rfl (fun wq hI => by exact run_load_op rfl rfl (load_ent (HG5.out.below hI).a)) ?_
      refine w_val [(4, _)] (_) (fun vs w hK => ⟨wants_none rfl, rho_out rfl rfl, trivial⟩) rfl (fun wq hI => by exact run_load_op rfl rfl (load_ent (HG5.out.below hI).b)) ?_
      refine w_call [(81, _), (82, _)] _ _ (by decide) (fun vs w hK => ⟨wants_none rfl, rho_in rfl (fv (hK 0 (by decide))), rho_in rfl (fv (hK 1 (by decide))), trivial⟩) rfl rfl Try.func12 (by kernel_rfl) rfl (fun wq hI => Cxy.out wq) (margs rfl) ?_
      refine w_val [(83, _)] (_) (fun vs w hK => ⟨wants_none rfl, rho_in rfl (fv (hK 2 (by decide))), trivial⟩) rfl (fun wq hI => by exact run_int_lss rfl rfl rfl rfl) ?_
      refine w_move (.inl rfl) (fun vs w hK => ⟨wants_none rfl, rho_in rfl (fv (hK 3 (by decide)))⟩) ?_
      refine w_valG [(4, _)] (_) (fun vs w hK => wantsT rfl (fv (hK 4 (by decide)))) (fun hG vs w hK => ⟨(rho_out rfl rfl), trivial⟩) rfl (fun hG wq hI => by exact run_load_op rfl rfl (load_ent (HG5.out.below hI).b)) ?_
      refine w_valG [(5, _)] (_) (fun vs w hK => wantsT rfl (fv (hK 4 (by decide)))) (fun hG vs w hK => ⟨(rho_out rfl rfl), trivial⟩) rfl (fun hG wq hI => by exact run_load_op rfl rfl (load_ent (HG5.out.below hI).c)) ?_
      refine w_callG [(86, _), (87, _)] _ _ (by decide) (fun vs w hK => wantsT rfl (fv (hK 4 (by decide)))) (fun hG vs w hK => ⟨(rho_in rfl (fvg (hK 5 (by decide)) hG)), (rho_in rfl (fvg (hK 6 (by decide)) hG)), trivial⟩) rfl rfl Try.func12 (by kernel_rfl) rfl (fun hG wq hI => Cyz.out wq) (margs rfl) ?_
      refine w_valG [(88, _)] (_) (fun vs w hK => wantsT rfl (fv (hK 4 (by decide)))) (fun hG vs w hK => ⟨(rho_in rfl (fvg (hK 7 (by decide)) hG)), trivial⟩) rfl (fun hG wq hI => by exact run_int_lss rfl rfl rfl rfl) ?_
      refine w_and rfl (fun vs w hK => wants_none rfl) (fun vs w hK => (rho_in rfl (fv (hK 4 (by decide))))) (fun hB vs w hK => (rho_in rfl (fvg (hK 8 (by decide)) hB))) ?_
      refine w_move (.inl rfl) (fun vs w hK => ⟨wants_none rfl, rho_in rfl (fv (hK 9 (by decide)))⟩) ?_
      refine w_valG [(3, _)] (_) (fun vs w hK => wantsT rfl (fv (hK 10 (by decide)))) (fun hG vs w hK => ⟨(rho_out rfl rfl), trivial⟩) rfl (fun hG wq hI => by exact run_load_op rfl rfl (load_ent (HG5.out.below hI).a)) ?_
      refine w_valG [(5, _)] (_) (fun vs w hK => wantsT rfl (fv (hK 10 (by decide)))) (fun hG vs w hK => ⟨(rho_out rfl rfl), trivial⟩) rfl (fun hG wq hI => by exact run_load_op rfl rfl (load_ent (HG5.out.below hI).c)) ?_
      refine w_callG [(92, _), (93, _)] _ _ (by decide) (fun vs w hK => wantsT rfl (fv (hK 10 (by decide)))) (fun hG vs w hK => ⟨(rho_in rfl (fvg (hK 11 (by decide)) hG)), (rho_in rfl (fvg (hK 12 (by decide)) hG)), trivial⟩) rfl rfl Try.func12 (by kernel_rfl) rfl (fun hG wq hI => Cxz.out wq) (margs rfl) ?_
      refine w_valG [(94, _)] (_) (fun vs w hK => wantsT rfl (fv (hK 10 (by decide)))) (fun hG vs w hK => ⟨(rho_in rfl (fvg (hK 13 (by decide)) hG)), trivial⟩) rfl (fun hG wq hI => by exact run_int_geq rfl rfl rfl rfl) ?_
      refine w_and rfl (fun vs w hK => wants_none rfl) (fun vs w hK => (rho_in rfl (fv (hK 10 (by decide))))) (fun hB vs w hK => (rho_in rfl (fvg (hK 14 (by decide)) hB))) ?_
      refine w_as (c' := .bool false) (congrArg Value.bool HTR.out) ?_
      refine w_end rfl rfl rfl (fun vs wq hI hF => ?_)
      simp only [List.reverse_cons, List.reverse_nil, List.nil_append, List.cons_append, finL_val, finL_of, finL_any, finL_app, finL_new, finL_gr, finL_row, finL_box, finL_nil, Act.put, List.setIfInBounds_toArray, List.set_cons_zero, List.set_cons_succ, Nat.reduceAdd]
      have HG6 := Lib.hid (HG5.out.below hI)
      have HW6 := Lib.hid (below_then HW5.out HW5.out.size hI)
      clear hI hF
      obtain ⟨w6, rfl⟩ : ∃ w6 : World, w6 = wq := ⟨_, rfl⟩
      go_upto_region 14 with fail
      refine draws_ (fun wq => Below w6.heap.size w6 wq) (fun _ => True) (by kernel_rfl) reg_3_14 rfl inv0 (fun _ _ _ _ => trivial) (below_drew (Below.refl _ _)) trivial ?_
      refine w_val [(3, _)] _ (fun vs w hK => ⟨wants_none rfl, rho_out rfl rfl, trivial⟩) rfl (fun wq hI => by simp only [execOp, Option.map_some, Option.map_none, lk_tmp, lk_const, lkT_cons, ↓reduceIte, Nat.reduceEqDiff]; go_simp; (first | done | rfl)) ?_
      refine w_val [(97, _)] (_) (fun vs w hK => ⟨wants_none rfl, rho_in rfl (fv (hK 0 (by decide))), trivial⟩) rfl (fun wq hI => by exact run_load_cell rfl rfl rfl Try.underlying9 rfl (cell_ent (HG6.out.below hI).a (by rw [HXX.out]; rfl))) ?_
      refine w_val [(4, _)] _ (fun vs w hK => ⟨wants_none rfl, rho_out rfl rfl, trivial⟩) rfl (fun wq hI => by simp only [execOp, Option.map_some, Option.map_none, lk_tmp, lk_const, lkT_cons, ↓reduceIte, Nat.reduceEqDiff]; go_simp; (first | done | rfl)) ?_
      refine w_val [(99, _)] (_) (fun vs w hK => ⟨wants_none rfl, rho_in rfl (fv (hK 2 (by decide))), trivial⟩) rfl (fun wq hI => by exact run_load_cell rfl rfl rfl Try.underlying9 rfl (cell_ent (HG6.out.below hI).b (by rw [HYY.out]; rfl))) ?_
      refine w_val [(98, _), (100, _)] (_) (fun vs w hK => ⟨wants_none rfl, rho_in rfl (fv (hK 1 (by decide))), rho_in rfl (fv (hK 3 (by decide))), trivial⟩) rfl (fun wq hI => by exact op_str_eq rfl rfl rfl rfl) ?_
      refine w_move (.inl rfl) (fun vs w hK => ⟨wants_none rfl, rho_in rfl (fv (hK 4 (by decide)))⟩) ?_
      refine w_valG [(3, _)] (_) (fun vs w hK => wantsF rfl (fv (hK 5 (by decide)))) (fun hG vs w hK => ⟨(rho_out rfl rfl), trivial⟩) rfl (fun hG wq hI => by exact run_load_op rfl rfl (load_ent (HG6.out.below hI).a)) ?_
      refine w_valG [(4, _)] (_) (fun vs w hK => wantsF rfl (fv (hK 5 (by decide)))) (fun hG vs w hK => ⟨(rho_out rfl rfl), trivial⟩) rfl (fun hG wq hI => by exact run_load_op rfl rfl (load_ent (HG6.out.below hI).b)) ?_
      refine w_callG [(103, _), (104, _)] _ _ (by decide) (fun vs w hK => wantsF rfl (fv (hK 5 (by decide)))) (fun hG vs w hK => ⟨(rho_in rfl (fvg (hK 6 (by decide)) hG)), (rho_in rfl (fvg (hK 7 (by decide)) hG)), trivial⟩) rfl rfl Try.func12 (by kernel_rfl) rfl (fun hG wq hI => Cxy.out wq) (margs rfl) ?_
      refine w_valG [(105, _)] (_) (fun vs w hK => wantsF rfl (fv (hK 5 (by decide)))) (fun hG vs w hK => ⟨(rho_in rfl (fvg (hK 8 (by decide)) hG)), trivial⟩) rfl (fun hG wq hI => by exact run_int_lss rfl rfl rfl rfl) ?_
      refine w_valG [(3, _)] (_) (fun vs w hK => wantsF rfl (fv (hK 5 (by decide)))) (fun hG vs w hK => ⟨(rho_out rfl rfl), trivial⟩) rfl (fun hG wq hI => by simp only [execOp, Option.map_some, Option.map_none, lk_tmp, lk_const, lkT_cons, ↓reduceIte, Nat.reduceEqDiff]; go_simp; (first | done | rfl)) ?_
      refine w_valG [(107, _)] (_) (fun vs w hK => wantsF rfl (fv (hK 5 (by decide)))) (fun hG vs w hK => ⟨(rho_in rfl (fvg (hK 10 (by decide)) hG)), trivial⟩) rfl (fun hG wq hI => by exact run_load_cell rfl rfl rfl Try.underlying9 rfl (cell_ent (HG6.out.below hI).a (by rw [HXX.out]; rfl))) ?_
      refine w_valG [(4, _)] (_) (fun vs w hK => wantsF rfl (fv (hK 5 (by decide)))) (fun hG vs w hK => ⟨(rho_out rfl rfl), trivial⟩) rfl (fun hG wq hI => by simp only [execOp, Option.map_some, Option.map_none, lk_tmp, lk_const, lkT_cons, ↓reduceIte, Nat.reduceEqDiff]; go_simp; (first | done | rfl)) ?_
      refine w_valG [(109, _)] (_) (fun vs w hK => wantsF rfl (fv (hK 5 (by decide)))) (fun hG vs w hK => ⟨(rho_in rfl (fvg (hK 12 (by decide)) hG)), trivial⟩) rfl (fun hG wq hI => by exact run_load_cell rfl rfl rfl Try.underlying9 rfl (cell_ent (HG6.out.below hI).b (by rw [HYY.out]; rfl))) ?_
      refine w_valG [(108, _), (110, _)] (_) (fun vs w hK => wantsF rfl (fv (hK 5 (by decide)))) (fun hG vs w hK => ⟨(rho_in rfl (fvg (hK 11 (by decide)) hG)), (rho_in rfl (fvg (hK 13 (by decide)) hG)), trivial⟩) rfl (fun hG wq hI => by exact op_str_lss rfl rfl rfl rfl) ?_
      refine w_valG [(106, _), (111, _)] (_) (fun vs w hK => wantsF rfl (fv (hK 5 (by decide)))) (fun hG vs w hK => ⟨(rho_in rfl (fvg (hK 9 (by decide)) hG)), (rho_in rfl (fvg (hK 14 (by decide)) hG)), trivial⟩) rfl (fun hG wq hI => by exact op_bool_eql rfl rfl Try.underlying4 rfl rfl) ?_
      refine w_or rfl (fun vs w hK => wants_none rfl) (fun vs w hK => (rho_in rfl (fv (hK 5 (by decide))))) (fun hB vs w hK => (rho_in rfl (fvg (hK 15 (by decide)) (gnot hB)))) ?_
      refine w_as (c' := .bool true) (congrArg Value.bool HLS.out) ?_
      refine w_move (.inr rfl) (fun vs w hK => ⟨wants_none rfl, rho_in rfl (fv (hK 16 (by decide)))⟩) ?_
      refine w_end rfl rfl rfl (fun vs wq hI hF => ?_)
      simp only [List.reverse_cons, List.reverse_nil, List.nil_append, List.cons_append, finL_val, finL_of, finL_any, finL_app, finL_new, finL_gr, finL_row, finL_box, finL_nil, Act.put, List.setIfInBounds_toArray, List.set_cons_zero, List.set_cons_succ, Nat.reduceAdd]
      have HW7 := Lib.hid (below_then HW6.out HW6.out.size hI)
      clear hI hF
      go_wp2_with fail
      go_ret
      exact ⟨rfl, HW7.out⟩
    · skip
      go_upto_region 10 with fail
      refine draws_ (fun wq => Below w4.heap.size w4 wq) (fun _ => True) (by kernel_rfl) reg_3_10 rfl inv0 (fun _ _ _ _ => trivial) (below_drew (Below.refl _ _)) trivial ?_
      refine w_val [(3, _)] (_) (fun vs w hK => ⟨wants_none rfl, rho_out rfl rfl, trivial⟩) rfl (fun wq hI => by exact run_load_op rfl rfl (load_ent (HG4.out.below hI).a)) ?_
      refine w_call [(48, _)] _ _ (by decide) (fun vs w hK => ⟨wants_none rfl, rho_in rfl (fv (hK 0 (by decide))), trivial⟩) rfl rfl Try.func11 (by kernel_rfl) rfl (fun wq hI => C11.out wq) (margs rfl) ?_
      refine w_move (.inl rfl) (fun vs w hK => ⟨wants_none rfl, rho_out rfl rfl⟩) ?_
      refine w_val [(49, _), (50, _)] (_) (fun vs w hK => ⟨wants_none rfl, rho_in rfl (fv (hK 1 (by decide))), rho_in rfl (fv (hK 2 (by decide))), trivial⟩) rfl (fun wq hI => by exact run_int_neq (r := false) rfl rfl rfl rfl) ?_
      refine w_move (.inl rfl) (fun vs w hK => ⟨wants_none rfl, rho_in rfl (fv (hK 3 (by decide)))⟩) ?_
      refine w_valG [(3, _)] (_) (fun vs w hK => wantsF rfl (fv (hK 4 (by decide)))) (fun hG vs w hK => ⟨(rho_out rfl rfl), trivial⟩) rfl (fun hG wq hI => by exact run_load_op rfl rfl (load_ent (HG4.out.below hI).a)) ?_
      refine w_valG [(4, _)] (_) (fun vs w hK => wantsF rfl (fv (hK 4 (by decide)))) (fun hG vs w hK => ⟨(rho_out rfl rfl), trivial⟩) rfl (fun hG wq hI => by exact run_load_op rfl rfl (load_ent (HG4.out.below hI).b)) ?_
      refine w_callG [(53, _), (54, _)] _ _ (by decide) (fun vs w hK => wantsF rfl (fv (hK 4 (by decide)))) (fun hG vs w hK => ⟨(rho_in rfl (fvg (hK 5 (by decide)) hG)), (rho_in rfl (fvg (hK 6 (by decide)) hG)), trivial⟩) rfl rfl Try.func12 (by kernel_rfl) rfl (fun hG wq hI => Cxy.out wq) (margs rfl) ?_
      refine w_valG [(4, _)] (_) (fun vs w hK => wantsF rfl (fv (hK 4 (by decide)))) (fun hG vs w hK => ⟨(rho_out rfl rfl), trivial⟩) rfl (fun hG wq hI => by exact run_load_op rfl rfl (load_ent (HG4.out.below hI).b)) ?_
      refine w_valG [(3, _)] (_) (fun vs w hK => wantsF rfl (fv (hK 4 (by decide)))) (fun hG vs w hK => ⟨(rho_out rfl rfl), trivial⟩) rfl (fun hG wq hI => by exact run_load_op rfl rfl (load_ent (HG4.out.below hI).a)) ?_
      refine w_callG [(56, _), (57, _)] _ _ (by decide) (fun vs w hK => wantsF rfl (fv (hK 4 (by decide)))) (fun hG vs w hK => ⟨(rho_in rfl (fvg (hK 8 (by decide)) hG)), (rho_in rfl (fvg (hK 9 (by decide)) hG)), trivial⟩) rfl rfl Try.func12 (by kernel_rfl) rfl (fun hG wq hI => Cyx.out wq) (margs rfl) ?_
      refine w_valG [(58, _)] (_) (fun vs w hK => wantsF rfl (fv (hK 4 (by decide)))) (fun hG vs w hK => ⟨(rho_in rfl (fvg (hK 10 (by decide)) hG)), trivial⟩) rfl (fun hG wq hI => by exact run_int_neg (c := c) rfl rfl (by have := HC1.out; rw [Int.neg_neg]; exact i64_id (by omega) (by omega))) ?_
      refine w_valG [(55, _), (59, _)] (_) (fun vs w hK => wantsF rfl (fv (hK 4 (by decide)))) (fun hG vs w hK => ⟨(rho_in rfl (fvg (hK 7 (by decide)) hG)), (rho_in rfl (fvg (hK 11 (by decide)) hG)), trivial⟩) rfl (fun hG wq hI => by exact run_int_neq (r := false) rfl rfl rfl (by simp)) ?_
      refine w_or rfl (fun vs w hK => wants_none rfl) (fun vs w hK => (rho_in rfl (fv (hK 4 (by decide))))) (fun hB vs w hK => (rho_in rfl (fvg (hK 12 (by decide)) (gnot hB)))) ?_
      refine w_move (.inl rfl) (fun vs w hK => ⟨wants_none rfl, rho_in rfl (fv (hK 13 (by decide)))⟩) ?_
      refine w_valG [(3, _)] (_) (fun vs w hK => wantsF rfl (fv (hK 14 (by decide)))) (fun hG vs w hK => ⟨(rho_out rfl rfl), trivial⟩) rfl (fun hG wq hI => by exact run_load_op rfl rfl (load_ent (HG4.out.below hI).a)) ?_
      refine w_valG [(4, _)] (_) (fun vs w hK => wantsF rfl (fv (hK 14 (by decide)))) (fun hG vs w hK => ⟨(rho_out rfl rfl), trivial⟩) rfl (fun hG wq hI => by exact run_load_op rfl rfl (load_ent (HG4.out.below hI).b)) ?_
      refine w_callG [(63, _), (64, _)] _ _ (by decide) (fun vs w hK => wantsF rfl (fv (hK 14 (by decide)))) (fun hG vs w hK => ⟨(rho_in rfl (fvg (hK 15 (by decide)) hG)), (rho_in rfl (fvg (hK 16 (by decide)) hG)), trivial⟩) rfl rfl Try.func12 (by kernel_rfl) rfl (fun hG wq hI => Cxy.out wq) (margs rfl) ?_
      refine w_valG [(65, _)] (_) (fun vs w hK => wantsF rfl (fv (hK 14 (by decide)))) (fun hG vs w hK => ⟨(rho_in rfl (fvg (hK 17 (by decide)) hG)), trivial⟩) rfl (fun hG wq hI => by exact run_int_eql rfl rfl rfl rfl) ?_
      refine w_valG [(3, _)] (_) (fun vs w hK => wantsF rfl (fv (hK 14 (by decide)))) (fun hG vs w hK => ⟨(rho_out rfl rfl), trivial⟩) rfl (fun hG wq hI => by simp only [execOp, Option.map_some, Option.map_none, lk_tmp, lk_const, lkT_cons, ↓reduceIte, Nat.reduceEqDiff]; go_simp; (first | done | rfl)) ?_
      refine w_valG [(67, _)] (_) (fun vs w hK => wantsF rfl (fv (hK 14 (by decide)))) (fun hG vs w hK => ⟨(rho_in rfl (fvg (hK 19 (by decide)) hG)), trivial⟩) rfl (fun hG wq hI => by exact run_load_cell rfl rfl rfl Try.underlying9 rfl (cell_ent (HG4.out.below hI).a (by rw [HXX.out]; rfl))) ?_
      refine w_valG [(4, _)] (_) (fun vs w hK => wantsF rfl (fv (hK 14 (by decide)))) (fun hG vs w hK => ⟨(rho_out rfl rfl), trivial⟩) rfl (fun hG wq hI => by simp only [execOp, Option.map_some, Option.map_none, lk_tmp, lk_const, lkT_cons, ↓reduceIte, Nat.reduceEqDiff]; go_simp; (first | done | rfl)) ?_
      refine w_valG [(69, _)] (_) (fun vs w hK => wantsF rfl (fv (hK 14 (by decide)))) (fun hG vs w hK => ⟨(rho_in rfl (fvg (hK 21 (by decide)) hG)), trivial⟩) rfl (fun hG wq hI => by exact run_load_cell rfl rfl rfl Try.underlying9 rfl (cell_ent (HG4.out.below hI).b (by rw [HYY.out]; rfl))) ?_
      refine w_valG [(68, _), (70, _)] (_) (fun vs w hK => wantsF rfl (fv (hK 14 (by decide)))) (fun hG vs w hK => ⟨(rho_in rfl (fvg (hK 20 (by decide)) hG)), (rho_in rfl (fvg (hK 22 (by decide)) hG)), trivial⟩) rfl (fun hG wq hI => by exact op_str_eq rfl rfl rfl rfl) ?_
      refine w_moveG (.inl rfl) (fun vs w hK => wantsF rfl (fv (hK 14 (by decide)))) (fun hG vs w hK => (rho_in rfl (fvg (hK 23 (by decide)) hG))) ?_
      refine w_valG [(3, _)] (_) (fun vs w hK => wantsTg rfl (fv (hK 24 (by decide)))) (fun hG vs w hK => ⟨(rho_out rfl rfl), trivial⟩) rfl (fun hG wq hI => by simp only [execOp, Option.map_some, Option.map_none, lk_tmp, lk_const, lkT_cons, ↓reduceIte, Nat.reduceEqDiff]; go_simp; (first | done | rfl)) ?_
      refine w_valG [(73, _)] (_) (fun vs w hK => wantsTg rfl (fv (hK 24 (by decide)))) (fun hG vs w hK => ⟨(rho_in rfl (fvg (hK 25 (by decide)) hG)), trivial⟩) rfl (fun hG wq hI => by exact run_load_cell rfl rfl rfl Try.underlying22 rfl (cell_ent (HG4.out.below hI).a (by rw [HXX.out]; rfl))) ?_
      refine w_valG [(4, _)] (_) (fun vs w hK => wantsTg rfl (fv (hK 24 (by decide)))) (fun hG vs w hK => ⟨(rho_out rfl rfl), trivial⟩) rfl (fun hG wq hI => by simp only [execOp, Option.map_some, Option.map_none, lk_tmp, lk_const, lkT_cons, ↓reduceIte, Nat.reduceEqDiff]; go_simp; (first | done | rfl)) ?_
      refine w_valG [(75, _)] (_) (fun vs w hK => wantsTg rfl (fv (hK 24 (by decide)))) (fun hG vs w hK => ⟨(rho_in rfl (fvg (hK 27 (by decide)) hG)), trivial⟩) rfl (fun hG wq hI => by exact run_load_cell rfl rfl rfl Try.underlying22 rfl (cell_ent (HG4.out.below hI).b (by rw [HYY.out]; rfl))) ?_
      refine w_valG [(74, _), (76, _)] (_) (fun vs w hK => wantsTg rfl (fv (hK 24 (by decide)))) (fun hG vs w hK => ⟨(rho_in rfl (fvg (hK 26 (by decide)) hG)), (rho_in rfl (fvg (hK 28 (by decide)) hG)), trivial⟩) rfl (fun hG wq hI => by exact run_int_eql rfl rfl rfl rfl) ?_
      refine w_andG rfl (fun vs w hK => wantsF rfl (fv (hK 14 (by decide)))) (fun hG vs w hK => (rho_in rfl (fvg (hK 24 (by decide)) hG))) (fun hG hB vs w hK => (rho_in rfl (fvg (hK 29 (by decide)) (gand hG hB)))) ?_
      refine w_valG [(66, _), (78, _)] (_) (fun vs w hK => wantsF rfl (fv (hK 14 (by decide)))) (fun hG vs w hK => ⟨(rho_in rfl (fvg (hK 18 (by decide)) hG)), (rho_in rfl (fvg (hK 30 (by decide)) hG)), trivial⟩) rfl (fun hG wq hI => by exact op_bool_neq (r := false) rfl rfl Try.underlying4 rfl HZ0.out) ?_
      refine w_or rfl (fun vs w hK => wants_none rfl) (fun vs w hK => (rho_in rfl (fv (hK 14 (by decide))))) (fun hB vs w hK => (rho_in rfl (fvg (hK 31 (by decide)) (gnot hB)))) ?_
      refine w_end rfl rfl rfl (fun vs wq hI hF => ?_)
      simp only [List.reverse_cons, List.reverse_nil, List.nil_append, List.cons_append, finL_val, finL_of, finL_any, finL_app, finL_new, finL_gr, finL_row, finL_box, finL_nil, Act.put, List.setIfInBounds_toArray, List.set_cons_zero, List.set_cons_succ, Nat.reduceAdd]
      have HG5 := Lib.hid (HG4.out.below hI)
      have HW5 := Lib.hid (below_then HW4.out HW4.out.size hI)
      clear hI hF
      obtain ⟨w5, rfl⟩ : ∃ w5 : World, w5 = wq := ⟨_, rfl⟩
      go_upto_region 12 with fail
      refine plain_ (fun wq => Below w5.heap.size w5 wq) (fun _ => True) reg_3_12 rfl inv0 (fun _ _ _ _ => trivial) (Below.refl _ _) trivial ?_
      refine w_val [(3, _)] (_) (fun vs w hK => ⟨wants_none rfl, rho_out rfl rfl, trivial⟩) rfl (fun wq hI => by exact run_load_op rfl rfl (load_ent (HG5.out.below hI).a)) ?_
      refine w_val [(4, _)] (_) (fun vs w hK => ⟨wants_none rfl, rho_out rfl rfl, trivial⟩) rfl (fun wq hI => by exact run_load_op rfl rfl (load_ent (HG5.out.below hI).b)) ?_
      refine w_call [(81, _), (82, _)] _ _ (by decide) (fun vs w hK => ⟨wants_none rfl, rho_in rfl (fv (hK 0 (by decide))), rho_in rfl (fv (hK 1 (by decide))), trivial⟩) rfl rfl Try.func12 (by kernel_rfl) rfl (fun wq hI => Cxy.out wq) (margs rfl) ?_
      refine w_val [(83, _)] (_) (fun vs w hK => ⟨wants_none rfl, rho_in rfl (fv (hK 2 (by decide))), trivial⟩) rfl (fun wq hI => by exact run_int_lss rfl rfl rfl rfl) ?_
      refine w_move (.inl rfl) (fun vs w hK => ⟨wants_none rfl, rho_in rfl (fv (hK 3 (by decide)))⟩) ?_
      refine w_valG [(4, _)] (_) (fun vs w hK => wantsT rfl (fv (hK 4 (by decide)))) (fun hG vs w hK => ⟨(rho_out rfl rfl), trivial⟩) rfl (fun hG wq hI => by exact run_load_op rfl rfl (load_ent (HG5.out.below hI).b)) ?_
      refine w_valG [(5, _)] (_) (fun vs w hK => wantsT rfl (fv (hK 4 (by decide)))) (fun hG vs w hK => ⟨(rho_out rfl rfl), trivial⟩) rfl (fun hG wq hI => by exact run_load_op rfl rfl (load_ent (HG5.out.below hI).c)) ?_
      refine w_callG [(86, _), (87, _)] _ _ (by decide) (fun vs w hK => wantsT rfl (fv (hK 4 (by decide)))) (fun hG vs w hK => ⟨(rho_in rfl (fvg (hK 5 (by decide)) hG)), (rho_in rfl (fvg (hK 6 (by decide)) hG)), trivial⟩) rfl rfl Try.func12 (by kernel_rfl) rfl (fun hG wq hI => Cyz.out wq) (margs rfl) ?_
      refine w_valG [(88, _)] (_) (fun vs w hK => wantsT rfl (fv (hK 4 (by decide)))) (fun hG vs w hK => ⟨(rho_in rfl (fvg (hK 7 (by decide)) hG)), trivial⟩) rfl (fun hG wq hI => by exact run_int_lss rfl rfl rfl rfl) ?_
      refine w_and rfl (fun vs w hK => wants_none rfl) (fun vs w hK => (rho_in rfl (fv (hK 4 (by decide))))) (fun hB vs w hK => (rho_in rfl (fvg (hK 8 (by decide)) hB))) ?_
      refine w_move (.inl rfl) (fun vs w hK => ⟨wants_none rfl, rho_in rfl (fv (hK 9 (by decide)))⟩) ?_
      refine w_valG [(3, _)] (_) (fun vs w hK => wantsT rfl (fv (hK 10 (by decide)))) (fun hG vs w hK => ⟨(rho_out rfl rfl), trivial⟩) rfl (fun hG wq hI => by exact run_load_op rfl rfl (load_ent (HG5.out.below hI).a)) ?_
      refine w_valG [(5, _)] (_) (fun vs w hK => wantsT rfl (fv (hK 10 (by decide)))) (fun hG vs w hK => ⟨(rho_out rfl rfl), trivial⟩) rfl (fun hG wq hI => by exact run_load_op rfl rfl (load_ent (HG5.out.below hI).c)) ?_
      refine w_callG [(92, _), (93, _)] _ _ (by decide) (fun vs w hK => wantsT rfl (fv (hK 10 (by decide)))) (fun hG vs w hK => ⟨(rho_in rfl (fvg (hK 11 (by decide)) hG)), (rho_in rfl (fvg (hK 12 (by decide)) hG)), trivial⟩) rfl rfl Try.func12 (by kernel_rfl) rfl (fun hG wq hI => Cxz.out wq) (margs rfl) ?_
      refine w_valG [(94, _)] (_) (fun vs w hK => wantsT rfl (fv (hK 10 (by decide)))) (fun hG vs w hK => ⟨(rho_in rfl (fvg (hK 13 (by decide)) hG)), trivial⟩) rfl (fun hG wq hI => by exact run_int_geq rfl rfl rfl rfl) ?_
      refine w_and rfl (fun vs w hK => wants_none rfl) (fun vs w hK => (rho_in rfl (fv (hK 10 (by decide))))) (fun hB vs w hK => (rho_in rfl (fvg (hK 14 (by decide)) hB))) ?_
      refine w_as (c' := .bool false) (congrArg Value.bool HTR.out) ?_
      refine w_end rfl rfl rfl (fun vs wq hI hF => ?_)
      simp only [List.reverse_cons, List.reverse_nil, List.nil_append, List.cons_append, finL_val, finL_of, finL_any, finL_app, finL_new, finL_gr, finL_row, finL_box, finL_nil, Act.put, List.setIfInBounds_toArray, List.set_cons_zero, List.set_cons_succ, Nat.reduceAdd]
      have HG6 := Lib.hid (HG5.out.below hI)
      have HW6 := Lib.hid (below_then HW5.out HW5.out.size hI)
      clear hI hF
      obtain ⟨w6, rfl⟩ : ∃ w6 : World, w6 = wq := ⟨_, rfl⟩
      go_upto_region 14 with fail
      refine draws_ (fun wq => Below w6.heap.size w6 wq) (fun _ => True) (by kernel_rfl) reg_3_14 rfl inv0 (fun _ _ _ _ => trivial) (below_drew (Below.refl _ _)) trivial ?_
      refine w_val [(3, _)] _ (fun vs w hK => ⟨wants_none rfl, rho_out rfl rfl, trivial⟩) rfl (fun wq hI => by simp only [execOp, Option.map_some, Option.map_none, lk_tmp, lk_const, lkT_cons, ↓reduceIte, Nat.reduceEqDiff]; go_simp; (first | done | rfl)) ?_
      refine w_val [(97, _)] (_) (fun vs w hK => ⟨wants_none rfl, rho_in rfl (fv (hK 0 (by decide))), trivial⟩) rfl (fun wq hI => by exact run_load_cell rfl rfl rfl Try.underlying9 rfl (cell_ent (HG6.out.below hI).a (by rw [HXX.out]; rfl))) ?_
      refine w_val [(4, _)] _ (fun vs w hK => ⟨wants_none rfl, rho_out rfl rfl, trivial⟩) rfl (fun wq hI => by simp only [execOp, Option.map_some, Option.map_none, lk_tmp, lk_const, lkT_cons, ↓reduceIte, Nat.reduceEqDiff]; go_simp; (first | done | rfl)) ?_
      refine w_val [(99, _)] (_) (fun vs w hK => ⟨wants_none rfl, rho_in rfl (fv (hK 2 (by decide))), trivial⟩) rfl (fun wq hI => by exact run_load_cell rfl rfl rfl Try.underlying9 rfl (cell_ent (HG6.out.below hI).b (by rw [HYY.out]; rfl))) ?_
      refine w_val [(98, _), (100, _)] (_) (fun vs w hK => ⟨wants_none rfl, rho_in rfl (fv (hK 1 (by decide))), rho_in rfl (fv (hK 3 (by decide))), trivial⟩) rfl (fun wq hI => by exact op_str_eq rfl rfl rfl rfl) ?_
      refine w_move (.inl rfl) (fun vs w hK => ⟨wants_none rfl, rho_in rfl (fv (hK 4 (by decide)))⟩) ?_
      refine w_valG [(3, _)] (_) (fun vs w hK => wantsF rfl (fv (hK 5 (by decide)))) (fun hG vs w hK => ⟨(rho_out rfl rfl), trivial⟩) rfl (fun hG wq hI => by exact run_load_op rfl rfl (load_ent (HG6.out.below hI).a)) ?_
      refine w_valG [(4, _)] (_) (fun vs w hK => wantsF rfl (fv (hK 5 (by decide)))) (fun hG vs w hK => ⟨(rho_out rfl rfl), trivial⟩) rfl (fun hG wq hI => by exact run_load_op rfl rfl (load_ent (HG6.out.below hI).b)) ?_
      refine w_callG [(103, _), (104, _)] _ _ (by decide) (fun vs w hK => wantsF rfl (fv (hK 5 (by decide)))) (fun hG vs w hK => ⟨(rho_in rfl (fvg (hK 6 (by decide)) hG)), (rho_in rfl (fvg (hK 7 (by decide)) hG)), trivial⟩) rfl rfl Try.func12 (by kernel_rfl) rfl (fun hG wq hI => Cxy.out wq) (margs rfl) ?_
      refine w_valG [(105, _)] (_) (fun vs w hK => wantsF rfl (fv (hK 5 (by decide)))) (fun hG vs w hK => ⟨(rho_in rfl (fvg (hK 8 (by decide)) hG)), trivial⟩) rfl (fun hG wq hI => by exact run_int_lss rfl rfl rfl rfl) ?_
      refine w_valG [(3, _)] (_) (fun vs w hK => wantsF rfl (fv (hK 5 (by decide)))) (fun hG vs w hK => ⟨(rho_out rfl rfl), trivial⟩) rfl (fun hG wq hI => by simp only [execOp, Option.map_some, Option.map_none, lk_tmp, lk_const, lkT_cons, ↓reduceIte, Nat.reduceEqDiff]; go_simp; (first | done | rfl)) ?_
      refine w_valG [(107, _)] (_) (fun vs w hK => wantsF rfl (fv (hK 5 (by decide)))) (fun hG vs w hK => ⟨(rho_in rfl (fvg (hK 10 (by decide)) hG)), trivial⟩) rfl (fun hG wq hI => by exact run_load_cell rfl rfl rfl Try.underlying9 rfl (cell_ent (HG6.out.below hI).a (by rw [HXX.out]; rfl))) ?_
      refine w_valG [(4, _)] (_) (fun vs w hK => wantsF rfl (fv (hK 5 (by decide)))) (fun hG vs w hK => ⟨(rho_out rfl rfl), trivial⟩) rfl (fun hG wq hI => by simp only [execOp, Option.map_some, Option.map_none, lk_tmp, lk_const, lkT_cons, ↓reduceIte, Nat.reduceEqDiff]; go_simp; (first | done | rfl)) ?_
      refine w_valG [(109, _)] (_) (fun vs w hK => wantsF rfl (fv (hK 5 (by decide)))) (fun hG vs w hK => ⟨(rho_in rfl (fvg (hK 12 (by decide)) hG)), trivial⟩) rfl (fun hG wq hI => by exact run_load_cell rfl rfl rfl Try.underlying9 rfl (cell_ent (HG6.out.below hI).b (by rw [HYY.out]; rfl))) ?_
      refine w_valG [(108, _), (110, _)] (_) (fun vs w hK => wantsF rfl (fv (hK 5 (by decide)))) (fun hG vs w hK => ⟨(rho_in rfl (fvg (hK 11 (by decide)) hG)), (rho_in rfl (fvg (hK 13 (by decide)) hG)), trivial⟩) rfl (fun hG wq hI => by exact op_str_lss rfl rfl rfl rfl) ?_
      refine w_valG [(106, _), (111, _)] (_) (fun vs w hK => wantsF rfl (fv (hK 5 (by decide)))) (fun hG vs w hK => ⟨(rho_in rfl (fvg (hK 9 (by decide)) hG)), (rho_in rfl (fvg (hK 14 (by decide)) hG)), trivial⟩) rfl (fun hG wq hI => by exact op_bool_eql rfl rfl Try.underlying4 rfl rfl) ?_
      refine w_or rfl (fun vs w hK => wants_none rfl) (fun vs w hK => (rho_in rfl (fv (hK 5 (by decide))))) (fun hB vs w hK => (rho_in rfl (fvg (hK 15 (by decide)) (gnot hB)))) ?_
      refine w_as (c' := .bool true) (congrArg Value.bool HLS.out) ?_
      refine w_move (.inr rfl) (fun vs w hK => ⟨wants_none rfl, rho_in rfl (fv (hK 16 (by decide)))⟩) ?_
      refine w_end rfl rfl rfl (fun vs wq hI hF => ?_)
      simp only [List.reverse_cons, List.reverse_nil, List.nil_append, List.cons_append, finL_val, finL_of, finL_any, finL_app, finL_new, finL_gr, finL_row, finL_box, finL_nil, Act.put, List.setIfInBounds_toArray, List.set_cons_zero, List.set_cons_succ, Nat.reduceAdd]
      have HW7 := Lib.hid (below_then HW6.out HW6.out.size hI)
      clear hI hF
      go_wp2_with fail
      go_ret
      exact ⟨rfl, HW7.out⟩
  · skip
    go_upto_region 8 with fail
    refine plain_ (fun wq => Below w3.heap.size w3 wq) (fun _ => True) reg_3_8 rfl inv0 (fun _ _ _ _ => trivial) (Below.refl _ _) trivial ?_
    refine w_val [(3, _)] _ (fun vs w hK => ⟨wants_none rfl, rho_out rfl rfl, trivial⟩) rfl (fun wq hI => by simp only [execOp, Option.map_some, Option.map_none, lk_tmp, lk_const, lkT_cons, ↓reduceIte, Nat.reduceEqDiff]; go_simp; (first | done | rfl)) ?_
    refine w_val [(30, _)] (_) (fun vs w hK => ⟨wants_none rfl, rho_in rfl (fv (hK 0 (by decide))), trivial⟩) rfl (fun wq hI => by exact run_load_cell rfl rfl rfl Try.underlying9 rfl (cell_ent (HG3.out.below hI).a (by rw [HXX.out]; rfl))) ?_
    refine w_val [(31, _)] (_) (fun vs w hK => ⟨wants_none rfl, rho_in rfl (fv (hK 1 (by decide))), trivial⟩) rfl (fun wq hI => by exact op_str_eq rfl rfl rfl rfl) ?_
    refine w_move (.inl rfl) (fun vs w hK => ⟨wants_none rfl, rho_in rfl (fv (hK 2 (by decide)))⟩) ?_
    refine w_valG [(3, _)] (_) (fun vs w hK => wantsF rfl (fv (hK 3 (by decide)))) (fun hG vs w hK => ⟨(rho_out rfl rfl), trivial⟩) rfl (fun hG wq hI => by simp only [execOp, Option.map_some, Option.map_none, lk_tmp, lk_const, lkT_cons, ↓reduceIte, Nat.reduceEqDiff]; go_simp; (first | done | rfl)) ?_
    refine w_valG [(34, _)] (_) (fun vs w hK => wantsF rfl (fv (hK 3 (by decide)))) (fun hG vs w hK => ⟨(rho_in rfl (fvg (hK 4 (by decide)) hG)), trivial⟩) rfl (fun hG wq hI => by exact run_load_cell rfl rfl rfl Try.underlying22 rfl (cell_ent (HG3.out.below hI).a (by rw [HXX.out]; rfl))) ?_
    refine w_valG [(35, _)] (_) (fun vs w hK => wantsF rfl (fv (hK 3 (by decide)))) (fun hG vs w hK => ⟨(rho_in rfl (fvg (hK 5 (by decide)) hG)), trivial⟩) rfl (fun hG wq hI => by exact run_int_geq rfl rfl rfl rfl) ?_
    refine w_or rfl (fun vs w hK => wants_none rfl) (fun vs w hK => (rho_in rfl (fv (hK 3 (by decide))))) (fun hB vs w hK => (rho_in rfl (fvg (hK 6 (by decide)) (gnot hB)))) ?_
    refine w_move (.inl rfl) (fun vs w hK => ⟨wants_none rfl, rho_in rfl (fv (hK 7 (by decide)))⟩) ?_
    refine w_valG [(3, _)] (_) (fun vs w hK => wantsF rfl (fv (hK 8 (by decide)))) (fun hG vs w hK => ⟨(rho_out rfl rfl), trivial⟩) rfl (fun hG wq hI => by simp only [execOp, Option.map_some, Option.map_none, lk_tmp, lk_const, lkT_cons, ↓reduceIte, Nat.reduceEqDiff]; go_simp; (first | done | rfl)) ?_
    refine w_valG [(39, _)] (_) (fun vs w hK => wantsF rfl (fv (hK 8 (by decide)))) (fun hG vs w hK => ⟨(rho_in rfl (fvg (hK 9 (by decide)) hG)), trivial⟩) rfl (fun hG wq hI => by exact run_load_cell rfl rfl rfl Try.underlying4 rfl (cell_ent (HG3.out.below hI).a (by rw [HXX.out]; rfl))) ?_
    refine w_moveG (.inl rfl) (fun vs w hK => wantsF rfl (fv (hK 8 (by decide)))) (fun hG vs w hK => (rho_in rfl (fvg (hK 10 (by decide)) hG))) ?_
    refine w_valG [(3, _)] (_) (fun vs w hK => wantsTg rfl (fv (hK 11 (by decide)))) (fun hG vs w hK => ⟨(rho_out rfl rfl), trivial⟩) rfl (fun hG wq hI => by simp only [execOp, Option.map_some, Option.map_none, lk_tmp, lk_const, lkT_cons, ↓reduceIte, Nat.reduceEqDiff]; go_simp; (first | done | rfl)) ?_
    refine w_valG [(42, _)] (_) (fun vs w hK => wantsTg rfl (fv (hK 11 (by decide)))) (fun hG vs w hK => ⟨(rho_in rfl (fvg (hK 12 (by decide)) hG)), trivial⟩) rfl (fun hG wq hI => by exact run_load_cell rfl rfl rfl Try.underlying9 rfl (cell_ent (HG3.out.below hI).a (by rw [HXX.out]; rfl))) ?_
    refine w_valG [(43, _)] (_) (fun vs w hK => wantsTg rfl (fv (hK 11 (by decide)))) (fun hG vs w hK => ⟨(rho_in rfl (fvg (hK 13 (by decide)) hG)), trivial⟩) rfl (fun hG wq hI => by exact run_len_str rfl Try.underlying9 rfl rfl) ?_
    refine w_valG [(44, _)] (_) (fun vs w hK => wantsTg rfl (fv (hK 11 (by decide)))) (fun hG vs w hK => ⟨(rho_in rfl (fvg (hK 14 (by decide)) hG)), trivial⟩) rfl (fun hG wq hI => by exact run_int_gtr rfl rfl rfl rfl) ?_
    refine w_andG rfl (fun vs w hK => wantsF rfl (fv (hK 8 (by decide)))) (fun hG vs w hK => (rho_in rfl (fvg (hK 11 (by decide)) hG))) (fun hG hB vs w hK => (rho_in rfl (fvg (hK 15 (by decide)) (gand hG hB)))) ?_
    refine w_or rfl (fun vs w hK => wants_none rfl) (fun vs w hK => (rho_in rfl (fv (hK 8 (by decide))))) (fun hB vs w hK => (rho_in rfl (fvg (hK 16 (by decide)) (gnot hB)))) ?_
    refine w_as (c' := .bool B8) (congrArg Value.bool HB8.out) ?_
    refine w_end rfl rfl rfl (fun vs wq hI hF => ?_)
    simp only [List.reverse_cons, List.reverse_nil, List.nil_append, List.cons_append, finL_val, finL_of, finL_any, finL_app, finL_new, finL_gr, finL_row, finL_box, finL_nil, Act.put, List.setIfInBounds_toArray, List.set_cons_zero, List.set_cons_succ, Nat.reduceAdd]
    have HG4 := Lib.hid (HG3.out.below hI)
    have HW4 := Lib.hid (below_then HW3.out HW3.out.size hI)
    clear hI hF
    obtain ⟨w4, rfl⟩ : ∃ w4 : World, w4 = wq := ⟨_, rfl⟩
    cases B8
    · skip
      go_upto_region 10 with fail
      refine draws_ (fun wq => Below w4.heap.size w4 wq) (fun _ => True) (by kernel_rfl) reg_3_10 rfl inv0 (fun _ _ _ _ => trivial) (below_drew (Below.refl _ _)) trivial ?_
      refine w_val [(3, _)] (_) (fun vs w hK => ⟨wants_none rfl, rho_out rfl rfl, trivial⟩) rfl (fun wq hI => by exact run_load_op rfl rfl (load_ent (HG4.out.below hI).a)) ?_
      refine w_call [(48, _)] _ _ (by decide) (fun vs w hK => ⟨wants_none rfl, rho_in rfl (fv (hK 0 (by decide))), trivial⟩) rfl rfl Try.func11 (by kernel_rfl) rfl (fun wq hI => C11.out wq) (margs rfl) ?_
      refine w_move (.inl rfl) (fun vs w hK => ⟨wants_none rfl, rho_out rfl rfl⟩) ?_
      refine w_val [(49, _), (50, _)] (_) (fun vs w hK => ⟨wants_none rfl, rho_in rfl (fv (hK 1 (by decide))), rho_in rfl (fv (hK 2 (by decide))), trivial⟩) rfl (fun wq hI => by exact run_int_neq (r := false) rfl rfl rfl rfl) ?_
      refine w_move (.inl rfl) (fun vs w hK => ⟨wants_none rfl, rho_in rfl (fv (hK 3 (by decide)))⟩) ?_
      refine w_valG [(3, _)] (_) (fun vs w hK => wantsF rfl (fv (hK 4 (by decide)))) (fun hG vs w hK => ⟨(rho_out rfl rfl), trivial⟩) rfl (fun hG wq hI => by exact run_load_op rfl rfl (load_ent (HG4.out.below hI).a)) ?_
      refine w_valG [(4, _)] (_) (fun vs w hK => wantsF rfl (fv (hK 4 (by decide)))) (fun hG vs w hK => ⟨(rho_out rfl rfl), trivial⟩) rfl (fun hG wq hI => by exact run_load_op rfl rfl (load_ent (HG4.out.below hI).b)) ?_
      refine w_callG [(53, _), (54, _)] _ _ (by decide) (fun vs w hK => wantsF rfl (fv (hK 4 (by decide)))) (fun hG vs w hK => ⟨(rho_in rfl (fvg (hK 5 (by decide)) hG)), (rho_in rfl (fvg (hK 6 (by decide)) hG)), trivial⟩) rfl rfl Try.func12 (by kernel_rfl) rfl (fun hG wq hI => Cxy.out wq) (margs rfl) ?_
      refine w_valG [(4, _)] (_) (fun vs w hK => wantsF rfl (fv (hK 4 (by decide)))) (fun hG vs w hK => ⟨(rho_out rfl rfl), trivial⟩) rfl (fun hG wq hI => by exact run_load_op rfl rfl (load_ent (HG4.out.below hI).b)) ?_
      refine w_valG [(3, _)] (_) (fun vs w hK => wantsF rfl (fv (hK 4 (by decide)))) (fun hG vs w hK => ⟨(rho_out rfl rfl), trivial⟩) rfl (fun hG wq hI => by exact run_load_op rfl rfl (load_ent (HG4.out.below hI).a)) ?_
      refine w_callG [(56, _), (57, _)] _ _ (by decide) (fun vs w hK => wantsF rfl (fv (hK 4 (by decide)))) (fun hG vs w hK => ⟨(rho_in rfl (fvg (hK 8 (by decide)) hG)), (rho_in rfl (fvg (hK 9 (by decide)) hG)), trivial⟩) rfl rfl Try.func12 (by kernel_rfl) rfl (fun hG wq hI => Cyx.out wq) (margs rfl) ?_
      refine w_valG [(58, _)] (_) (fun vs w hK => wantsF rfl (fv (hK 4 (by decide)))) (fun hG vs w hK => ⟨(rho_in rfl (fvg (hK 10 (by decide)) hG)), trivial⟩) rfl (fun hG wq hI => by exact run_int_neg (c := c) rfl rfl (by have := HC1.out; rw [Int.neg_neg]; exact i64_id (by omega) (by omega))) ?_
      refine w_valG [(55, _), (59, _)] (_) (fun vs w hK => wantsF rfl (fv (hK 4 (by decide)))) (fun hG vs w hK => ⟨(rho_in rfl (fvg (hK 7 (by decide)) hG)), (rho_in rfl (fvg (hK 11 (by decide)) hG)), trivial⟩) rfl (fun hG wq hI => by exact run_int_neq (r := false) rfl rfl rfl (by simp)) ?_
      refine w_or rfl (fun vs w hK => wants_none rfl) (fun vs w hK => (rho_in rfl (fv (hK 4 (by decide))))) (fun hB vs w hK => (rho_in rfl (fvg (hK 12 (by decide)) (gnot hB)))) ?_
      refine w_move (.inl rfl) (fun vs w hK => ⟨wants_none rfl, rho_in rfl (fv (hK 13 (by decide)))⟩) ?_
      refine w_valG [(3, _)] (_) (fun vs w hK => wantsF rfl (fv (hK 14 (by decide)))) (fun hG vs w hK => ⟨(rho_out rfl rfl), trivial⟩) rfl (fun hG wq hI => by exact run_load_op rfl rfl (load_ent (HG4.out.below hI).a)) ?_
      refine w_valG [(4, _)] (_) (fun vs w hK => wantsF rfl (fv (hK 14 (by decide)))) (fun hG vs w hK => ⟨(rho_out rfl rfl), trivial⟩) rfl (fun hG wq hI => by exact run_load_op rfl rfl (load_ent (HG4.out.below hI).b)) ?_
      refine w_callG [(63, _), (64, _)] _ _ (by decide) (fun vs w hK => wantsF rfl (fv (hK 14 (by decide)))) (fun hG vs w hK => ⟨(rho_in rfl (fvg (hK 15 (by decide)) hG)), (rho_in rfl (fvg (hK 16 (by decide)) hG)), trivial⟩) rfl rfl Try.func12 (by kernel_rfl) rfl (fun hG wq hI => Cxy.out wq) (margs rfl) ?_
      refine w_valG [(65, _)] (_) (fun vs w hK => wantsF rfl (fv (hK 14 (by decide)))) (fun hG vs w hK => ⟨(rho_in rfl (fvg (hK 17 (by decide)) hG)), trivial⟩) rfl (fun hG wq hI => by exact run_int_eql rfl rfl rfl rfl) ?_
      refine w_valG [(3, _)] (_) (fun vs w hK => wantsF rfl (fv (hK 14 (by decide)))) (fun hG vs w hK => ⟨(rho_out rfl rfl), trivial⟩) rfl (fun hG wq hI => by simp only [execOp, Option.map_some, Option.map_none, lk_tmp, lk_const, lkT_cons, ↓reduceIte, Nat.reduceEqDiff]; go_simp; (first | done | rfl)) ?_
      refine w_valG [(67, _)] (_) (fun vs w hK => wantsF rfl (fv (hK 14 (by decide)))) (fun hG vs w hK => ⟨(rho_in rfl (fvg (hK 19 (by decide)) hG)), trivial⟩) rfl (fun hG wq hI => by exact run_load_cell rfl rfl rfl Try.underlying9 rfl (cell_ent (HG4.out.below hI).a (by rw [HXX.out]; rfl))) ?_
      refine w_valG [(4, _)] (_) (fun vs w hK => wantsF rfl (fv (hK 14 (by decide)))) (fun hG vs w hK => ⟨(rho_out rfl rfl), trivial⟩) rfl (fun hG wq hI => by simp only [execOp, Option.map_some, Option.map_none, lk_tmp, lk_const, lkT_cons, ↓reduceIte, Nat.reduceEqDiff]; go_simp; (first | done | rfl)) ?_
      refine w_valG [(69, _)] (_) (fun vs w hK => wantsF rfl (fv (hK 14 (by decide)))) (fun hG vs w hK => ⟨(rho_in rfl (fvg (hK 21 (by decide)) hG)), trivial⟩) rfl (fun hG wq hI => by exact run_load_cell rfl rfl rfl Try.underlying9 rfl (cell_ent (HG4.out.below hI).b (by rw [HYY.out]; rfl))) ?_
      refine w_valG [(68, _), (70, _)] (_) (fun vs w hK => wantsF rfl (fv (hK 14 (by decide)))) (fun hG vs w hK => ⟨(rho_in rfl (fvg (hK 20 (by decide)) hG)), (rho_in rfl (fvg (hK 22 (by decide)) hG)), trivial⟩) rfl (fun hG wq hI => by exact op_str_eq rfl rfl rfl rfl) ?_
      refine w_moveG (.inl rfl) (fun vs w hK => wantsF rfl (fv (hK 14 (by decide)))) (fun hG vs w hK => (rho_in rfl (fvg (hK 23 (by decide)) hG))) ?_
      refine w_valG [(3, _)] (_) (fun vs w hK => wantsTg rfl (fv (hK 24 (by decide)))) (fun hG vs w hK => ⟨(rho_out rfl rfl), trivial⟩) rfl (fun hG wq hI => by simp only [execOp, Option.map_some, Option.map_none, lk_tmp, lk_const, lkT_cons, ↓reduceIte, Nat.reduceEqDiff]; go_simp; (first | done | rfl)) ?_
      refine w_valG [(73, _)] (_) (fun vs w hK => wantsTg rfl (fv (hK 24 (by decide)))) (fun hG vs w hK => ⟨(rho_in rfl (fvg (hK 25 (by decide)) hG)), trivial⟩) rfl (fun hG wq hI => by exact run_load_cell rfl rfl rfl Try.underlying22 rfl (cell_ent (HG4.out.below hI).a (by rw [HXX.out]; rfl))) ?_
      refine w_valG [(4, _)] (_) (fun vs w hK => wantsTg rfl (fv (hK 24 (by decide)))) (fun hG vs w hK => ⟨(rho_out rfl rfl), trivial⟩) rfl (fun hG wq hI => by simp only [execOp, Option.map_some, Option.map_none, lk_tmp, lk_const, lkT_cons, ↓reduceIte, Nat.reduceEqDiff]; go_simp; (first | done | rfl)) ?_
      refine w_valG [(75, _)] (_) (fun vs w hK => wantsTg rfl (fv (hK 24 (by decide)))) (fun hG vs w hK => ⟨(rho_in rfl (fvg (hK 27 (by decide)) hG)), trivial⟩) rfl (fun hG wq hI => by exact run_load_cell rfl rfl rfl Try.underlying22 rfl (cell_ent (HG4.out.below hI).b (by rw [HYY.out]; rfl))) ?_
      refine w_valG [(74, _), (76, _)] (_) (fun vs w hK => wantsTg rfl (fv (hK 24 (by decide)))) (fun hG vs w hK => ⟨(rho_in rfl (fvg (hK 26 (by decide)) hG)), (rho_in rfl (fvg (hK 28 (by decide)) hG)), trivial⟩) rfl (fun hG wq hI => by exact run_int_eql rfl rfl rfl rfl) ?_
      refine w_andG rfl (fun vs w hK => wantsF rfl (fv (hK 14 (by decide)))) (fun hG vs w hK => (rho_in rfl (fvg (hK 24 (by decide)) hG))) (fun hG hB vs w hK => (rho_in rfl (fvg (hK 29 (by decide)) (gand hG hB)))) ?_
      refine w_valG [(66, _), (78, _)] (_) (fun vs w hK => wantsF rfl (fv (hK 14 (by decide)))) (fun hG vs w hK => ⟨(rho_in rfl (fvg (hK 18 (by decide)) hG)), (rho_in rfl (fvg (hK 30 (by decide)) hG)), trivial⟩) rfl (fun hG wq hI => by exact op_bool_neq (r := false) rfl rfl Try.underlying4 rfl HZ0.out) ?_
      refine w_or rfl (fun vs w hK => wants_none rfl) (fun vs w hK => (rho_in rfl (fv (hK 14 (by decide))))) (fun hB vs w hK => (rho_in rfl (fvg (hK 31 (by decide)) (gnot hB)))) ?_
      refine w_end rfl rfl rfl (fun vs wq hI hF => ?_)
      simp only [List.reverse_cons, List.reverse_nil, List.nil_append, List.cons_append, finL_val, finL_of, finL_any, finL_app, finL_new, finL_gr, finL_row, finL_box, finL_nil, Act.put, List.setIfInBounds_toArray, List.set_cons_zero, List.set_cons_succ, Nat.reduceAdd]
      have HG5 := Lib.hid (HG4.out.below hI)
      have HW5 := Lib.hid (below_then HW4.out HW4.out.size hI)
      clear hI hF
      obtain ⟨w5, rfl⟩ : ∃ w5 : World, w5 = wq := ⟨_, rfl⟩
      go_upto_region 12 with fail
      refine plain_ (fun wq => Below w5.heap.size w5 wq) (fun _ => True) reg_3_12 rfl inv0 (fun _ _ _ _ => trivial) (Below.refl _ _) trivial ?_
      refine w_val [(3, _)] (_) (fun vs w hK => ⟨wants_none rfl, rho_out rfl rfl, trivial⟩) rfl (fun wq hI => by exact run_load_op rfl rfl (load_ent (HG5.out.below hI).a)) ?_
      refine w_val [(4, _)] (_) (fun vs w hK => ⟨wants_none rfl, rho_out rfl rfl, trivial⟩) rfl (fun wq hI => by exact run_load_op rfl rfl (load_ent (HG5.out.below hI).b)) ?_
      refine w_call [(81, _), (82, _)] _ _ (by decide) (fun vs w hK => ⟨wants_none rfl, rho_in rfl (fv (hK 0 (by decide))), rho_in rfl (fv (hK 1 (by decide))), trivial⟩) rfl rfl Try.func12 (by kernel_rfl) rfl (fun wq hI => Cxy.out wq) (margs rfl) ?_
      refine w_val [(83, _)] (_) (fun vs w hK => ⟨wants_none rfl, rho_in rfl (fv (hK 2 (by decide))), trivial⟩) rfl (fun wq hI => by exact run_int_lss rfl rfl rfl rfl) ?_
      refine w_move (.inl rfl) (fun vs w hK => ⟨wants_none rfl, rho_in rfl (fv (hK 3 (by decide)))⟩) ?_
      refine w_valG [(4, _)] (_) (fun vs w hK => wantsT rfl (fv (hK 4 (by decide)))) (fun hG vs w hK => ⟨(rho_out rfl rfl), trivial⟩) rfl (fun hG wq hI => by exact run_load_op rfl rfl (load_ent (HG5.out.below hI).b)) ?_
      refine w_valG [(5, _)] (_) (fun vs w hK => wantsT rfl (fv (hK 4 (by decide)))) (fun hG vs w hK => ⟨(rho_out rfl rfl), trivial⟩) rfl (fun hG wq hI => by exact run_load_op rfl rfl (load_ent (HG5.out.below hI).c)) ?_
      refine w_callG [(86, _), (87, _)] _ _ (by decide) (fun vs w hK => wantsT rfl (fv (hK 4 (by decide)))) (fun hG vs w hK => ⟨(rho_in rfl (fvg (hK 5 (by decide)) hG)), (rho_in rfl (fvg (hK 6 (by decide)) hG)), trivial⟩) rfl rfl Try.func12 (by kernel_rfl) rfl (fun hG wq hI => Cyz.out wq) (margs rfl) ?_
      refine w_valG [(88, _)] (_) (fun vs w hK => wantsT rfl (fv (hK 4 (by decide)))) (fun hG vs w hK => ⟨(rho_in rfl (fvg (hK 7 (by decide)) hG)), trivial⟩) rfl (fun hG wq hI => by exact run_int_lss rfl rfl rfl rfl) ?_
      refine w_and rfl (fun vs w hK => wants_none rfl) (fun vs w hK => (rho_in rfl (fv (hK 4 (by decide))))) (fun hB vs w hK => (rho_in rfl (fvg (hK 8 (by decide)) hB))) ?_
      refine w_move (.inl rfl) (fun vs w hK => ⟨wants_none rfl, rho_in rfl (fv (hK 9 (by decide)))⟩) ?_
      refine w_valG [(3, _)] (_) (fun vs w hK => wantsT rfl (fv (hK 10 (by decide)))) (fun hG vs w hK => ⟨(rho_out rfl rfl), trivial⟩) rfl (fun hG wq hI => by exact run_load_op rfl rfl (load_ent (HG5.out.below hI).a)) ?_
      refine w_valG [(5, _)] (_) (fun vs w hK => wantsT rfl (fv (hK 10 (by decide)))) (fun hG vs w hK => ⟨(rho_out rfl rfl), trivial⟩) rfl (fun hG wq hI => by exact run_load_op rfl rfl (load_ent (HG5.out.below hI).c)) ?_
      refine w_callG [(92, _), (93, _)] _ _ (by decide) (fun vs w hK => wantsT rfl (fv (hK 10 (by decide)))) (fun hG vs w hK => ⟨(rho_in rfl (fvg (hK 11 (by decide)) hG)), (rho_in rfl (fvg (hK 12 (by decide)) hG)), trivial⟩) rfl rfl Try.func12 (by kernel_rfl) rfl (fun hG wq hI => Cxz.out wq) (margs rfl) ?_
      refine w_valG [(94, _)] (_) (fun vs w hK => wantsT rfl (fv (hK 10 (by decide)))) (fun hG vs w hK => ⟨(rho_in rfl (fvg (hK 13 (by decide)) hG)), trivial⟩) rfl (fun hG wq hI => by exact run_int_geq rfl rfl rfl rfl) ?_
      refine w_and rfl (fun vs w hK => wants_none rfl) (fun vs w hK => (rho_in rfl (fv (hK 10 (by decide))))) (fun hB vs w hK => (rho_in rfl (fvg (hK 14 (by decide)) hB))) ?_
      refine w_as (c' := .bool false) (congrArg Value.bool HTR.out) ?_
      refine w_end rfl rfl rfl (fun vs wq hI hF => ?_)
      simp only [List.reverse_cons, List.reverse_nil, List.nil_append, List.cons_append, finL_val, finL_of, finL_any, finL_app, finL_new, finL_gr, finL_row, finL_box, finL_nil, Act.put, List.setIfInBounds_toArray, List.set_cons_zero, List.set_cons_succ, Nat.reduceAdd]
      have HG6 := Lib.hid (HG5.out.below hI)
      have HW6 := Lib.hid (below_then HW5.out HW5.out.size hI)
      clear hI hF
      obtain ⟨w6, rfl⟩ : ∃ w6 : World, w6 = wq := ⟨_, rfl⟩
      go_upto_region 14 with fail
      refine draws_ (fun wq => Below w6.heap.size w6 wq) (fun _ => True) (by kernel_rfl) reg_3_14 rfl inv0 (fun _ _ _ _ => trivial) (below_drew (Below.refl _ _)) trivial ?_
      refine w_val [(3, _)] _ (fun vs w hK => ⟨wants_none rfl, rho_out rfl rfl, trivial⟩) rfl (fun wq hI => by simp only [execOp, Option.map_some, Option.map_none, lk_tmp, lk_const, lkT_cons, ↓reduceIte, Nat.reduceEqDiff]; go_simp; (first | done | rfl)) ?_
      refine w_val [(97, _)] (_) (fun vs w hK => ⟨wants_none rfl, rho_in rfl (fv (hK 0 (by decide))), trivial⟩) rfl (fun wq hI => by exact run_load_cell rfl rfl rfl Try.underlying9 rfl (cell_ent (HG6.out.below hI).a (by rw [HXX.out]; rfl))) ?_
      refine w_val [(4, _)] _ (fun vs w hK => ⟨wants_none rfl, rho_out rfl rfl, trivial⟩) rfl (fun wq hI => by simp only [execOp, Option.map_some, Option.map_none, lk_tmp, lk_const, lkT_cons, ↓reduceIte, Nat.reduceEqDiff]; go_simp; (first | done | rfl)) ?_
      refine w_val [(99, _)] (_) (fun vs w hK => ⟨wants_none rfl, rho_in rfl (fv (hK 2 (by decide))), trivial⟩) rfl (fun wq hI => by exact run_load_cell rfl rfl rfl Try.underlying9 rfl (cell_ent (HG6.out.below hI).b (by rw [HYY.out]; rfl))) ?_
      refine w_val [(98, _), (100, _)] (_) (fun vs w hK => ⟨wants_none rfl, rho_in rfl (fv (hK 1 (by decide))), rho_in rfl (fv (hK 3 (by decide))), trivial⟩) rfl (fun wq hI => by exact op_str_eq rfl rfl rfl rfl) ?_
      refine w_move (.inl rfl) (fun vs w hK => ⟨wants_none rfl, rho_in rfl (fv (hK 4 (by decide)))⟩) ?_
      refine w_valG [(3, _)] (_) (fun vs w hK => wantsF rfl (fv (hK 5 (by decide)))) (fun hG vs w hK => ⟨(rho_out rfl rfl), trivial⟩) rfl (fun hG wq hI => by exact run_load_op rfl rfl (load_ent (HG6.out.below hI).a)) ?_
      refine w_valG [(4, _)] (_) (fun vs w hK => wantsF rfl (fv (hK 5 (by decide)))) (fun hG vs w hK => ⟨(rho_out rfl rfl), trivial⟩) rfl (fun hG wq hI => by exact run_load_op rfl rfl (load_ent (HG6.out.below hI).b)) ?_
      refine w_callG [(103, _), (104, _)] _ _ (by decide) (fun vs w hK => wantsF rfl (fv (hK 5 (by decide)))) (fun hG vs w hK => ⟨(rho_in rfl (fvg (hK 6 (by decide)) hG)), (rho_in rfl (fvg (hK 7 (by decide)) hG)), trivial⟩) rfl rfl Try.func12 (by kernel_rfl) rfl (fun hG wq hI => Cxy.out wq) (margs rfl) ?_
      refine w_valG [(105, _)] (_) (fun vs w hK => wantsF rfl (fv (hK 5 (by decide)))) (fun hG vs w hK => ⟨(rho_in rfl (fvg (hK 8 (by decide)) hG)), trivial⟩) rfl (fun hG wq hI => by exact run_int_lss rfl rfl rfl rfl) ?_
      refine w_valG [(3, _)] (_) (fun vs w hK => wantsF rfl (fv (hK 5 (by decide)))) (fun hG vs w hK => ⟨(rho_out rfl rfl), trivial⟩) rfl (fun hG wq hI => by simp only [execOp, Option.map_some, Option.map_none, lk_tmp, lk_const, lkT_cons, ↓reduceIte, Nat.reduceEqDiff]; go_simp; (first | done | rfl)) ?_
      refine w_valG [(107, _)] (_) (fun vs w hK => wantsF rfl (fv (hK 5 (by decide)))) (fun hG vs w hK => ⟨(rho_in rfl (fvg (hK 10 (by decide)) hG)), trivial⟩) rfl (fun hG wq hI => by exact run_load_cell rfl rfl rfl Try.underlying9 rfl (cell_ent (HG6.out.below hI).a (by rw [HXX.out]; rfl))) ?_
      refine w_valG [(4, _)] (_) (fun vs w hK => wantsF rfl (fv (hK 5 (by decide)))) (fun hG vs w hK => ⟨(rho_out rfl rfl), trivial⟩) rfl (fun hG wq hI => by simp only [execOp, Option.map_some, Option.map_none, lk_tmp, lk_const, lkT_cons, ↓reduceIte, Nat.reduceEqDiff]; go_simp; (first | done | rfl)) ?_
      refine w_valG [(109, _)] (_) (fun vs w hK => wantsF rfl (fv (hK 5 (by decide)))) (fun hG vs w hK => ⟨(rho_in rfl (fvg (hK 12 (by decide)) hG)), trivial⟩) rfl (fun hG wq hI => by exact run_load_cell rfl rfl rfl Try.underlying9 rfl (cell_ent (HG6.out.below hI).b (by rw [HYY.out]; rfl))) ?_
      refine w_valG [(108, _), (110, _)] (_) (fun vs w hK => wantsF rfl (fv (hK 5 (by decide)))) (fun hG vs w hK => ⟨(rho_in rfl (fvg (hK 11 (by decide)) hG)), (rho_in rfl (fvg (hK 13 (by decide)) hG)), trivial⟩) rfl (fun hG wq hI => by exact op_str_lss rfl rfl rfl rfl) ?_
      refine w_valG [(106, _), (111, _)] (_) (fun vs w hK => wantsF rfl (fv (hK 5 (by decide)))) (fun hG vs w hK => ⟨(rho_in rfl (fvg (hK 9 (by decide)) hG)), (rho_in rfl (fvg (hK 14 (by decide)) hG)), trivial⟩) rfl (fun hG wq hI => by exact op_bool_eql rfl rfl Try.underlying4 rfl rfl) ?_
      refine w_or rfl (fun vs w hK => wants_none rfl) (fun vs w hK => (rho_in rfl (fv (hK 5 (by decide))))) (fun hB vs w hK => (rho_in rfl (fvg (hK 15 (by decide)) (gnot hB)))) ?_
      refine w_as (c' := .bool true) (congrArg Value.bool HLS.out) ?_
      refine w_move (.inr rfl) (fun vs w hK => ⟨wants_none rfl, rho_in rfl (fv (hK 16 (by decide)))⟩) ?_
      refine w_end rfl rfl rfl (fun vs wq hI hF => ?_)
      simp only [List.reverse_cons, List.reverse_nil, List.nil_append, List.cons_append, finL_val, finL_of, finL_any, finL_app, finL_new, finL_gr, finL_row, finL_box, finL_nil, Act.put, List.setIfInBounds_toArray, List.set_cons_zero, List.set_cons_succ, Nat.reduceAdd]
      have HW7 := Lib.hid (below_then HW6.out HW6.out.size hI)
      clear hI hF
      go_wp2_with fail
      go_ret
      exact ⟨rfl, HW7.out⟩
    · skip
      go_upto_region 10 with fail
      refine draws_ (fun wq => Below w4.heap.size w4 wq) (fun _ => True) (by kernel_rfl) reg_3_10 rfl inv0 (fun _ _ _ _ => trivial) (below_drew (Below.refl _ _)) trivial ?_
      refine w_val [(3, _)] (_) (fun vs w hK => ⟨wants_none rfl, rho_out rfl rfl, trivial⟩) rfl (fun wq hI => by exact run_load_op rfl rfl (load_ent (HG4.out.below hI).a)) ?_
      refine w_call [(48, _)] _ _ (by decide) (fun vs w hK => ⟨wants_none rfl, rho_in rfl (fv (hK 0 (by decide))), trivial⟩) rfl rfl Try.func11 (by kernel_rfl) rfl (fun wq hI => C11.out wq) (margs rfl) ?_
      refine w_move (.inl rfl) (fun vs w hK => ⟨wants_none rfl, rho_out rfl rfl⟩) ?_
      refine w_val [(49, _), (50, _)] (_) (fun vs w hK => ⟨wants_none rfl, rho_in rfl (fv (hK 1 (by decide))), rho_in rfl (fv (hK 2 (by decide))), trivial⟩) rfl (fun wq hI => by exact run_int_neq (r := false) rfl rfl rfl rfl) ?_
      refine w_move (.inl rfl) (fun vs w hK => ⟨wants_none rfl, rho_in rfl (fv (hK 3 (by decide)))⟩) ?_
      refine w_valG [(3, _)] (_) (fun vs w hK => wantsF rfl (fv (hK 4 (by decide)))) (fun hG vs w hK => ⟨(rho_out rfl rfl), trivial⟩) rfl (fun hG wq hI => by exact run_load_op rfl rfl (load_ent (HG4.out.below hI).a)) ?_
      refine w_valG [(4, _)] (_) (fun vs w hK => wantsF rfl (fv (hK 4 (by decide)))) (fun hG vs w hK => ⟨(rho_out rfl rfl), trivial⟩) rfl (fun hG wq hI => by exact run_load_op rfl rfl (load_ent (HG4.out.below hI).b)) ?_
      refine w_callG [(53, _), (54, _)] _ _ (by decide) (fun vs w hK => wantsF rfl (fv (hK 4 (by decide)))) (fun hG vs w hK => ⟨(rho_in rfl (fvg (hK 5 (by decide)) hG)), (rho_in rfl (fvg (hK 6 (by decide)) hG)), trivial⟩) rfl rfl Try.func12 (by kernel_rfl) rfl (fun hG wq hI => Cxy.out wq) (margs rfl) ?_
      refine w_valG [(4, _)] (_) (fun vs w hK => wantsF rfl (fv (hK 4 (by decide)))) (fun hG vs w hK => ⟨(rho_out rfl rfl), trivial⟩) rfl (fun hG wq hI => by exact run_load_op rfl rfl (load_ent (HG4.out.below hI).b)) ?_
      refine w_valG [(3, _)] (_) (fun vs w hK => wantsF rfl (fv (hK 4 (by decide)))) (fun hG vs w hK => ⟨(rho_out rfl rfl), trivial⟩) rfl (fun hG wq hI => by exact run_load_op rfl rfl (load_ent (HG4.out.below hI).a)) ?_
      refine w_callG [(56, _), (57, _)] _ _ (by decide) (fun vs w hK => wantsF rfl (fv (hK 4 (by decide)))) (fun hG vs w hK => ⟨(rho_in rfl (fvg (hK 8 (by decide)) hG)), (rho_in rfl (fvg (hK 9 (by decide)) hG)), trivial⟩) rfl rfl Try.func12 (by kernel_rfl) rfl (fun hG wq hI => Cyx.out wq) (margs rfl) ?_
      refine w_valG [(58, _)] (_) (fun vs w hK => wantsF rfl (fv (hK 4 (by decide)))) (fun hG vs w hK => ⟨(rho_in rfl (fvg (hK 10 (by decide)) hG)), trivial⟩) rfl (fun hG wq hI => by exact run_int_neg (c := c) rfl rfl (by have := HC1.out; rw [Int.neg_neg]; exact i64_id (by omega) (by omega))) ?_
      refine w_valG [(55, _), (59, _)] (_) (fun vs w hK => wantsF rfl (fv (hK 4 (by decide)))) (fun hG vs w hK => ⟨(rho_in rfl (fvg (hK 7 (by decide)) hG)), (rho_in rfl (fvg (hK 11 (by decide)) hG)), trivial⟩) rfl (fun hG wq hI => by exact run_int_neq (r := false) rfl rfl rfl (by simp)) ?_
      refine w_or rfl (fun vs w hK => wants_none rfl) (fun vs w hK => (rho_in rfl (fv (hK 4 (by decide))))) (fun hB vs w hK => (rho_in rfl (fvg (hK 12 (by decide)) (gnot hB)))) ?_
      refine w_move (.inl rfl) (fun vs w hK => ⟨wants_none rfl, rho_in rfl (fv (hK 13 (by decide)))⟩) ?_
      refine w_valG [(3, _)] (_) (fun vs w hK => wantsF rfl (fv (hK 14 (by decide)))) (fun hG vs w hK => ⟨(rho_out rfl rfl), trivial⟩) rfl (fun hG wq hI => by exact run_load_op rfl rfl (load_ent (HG4.out.below hI).a)) ?_
      refine w_valG [(4, _)] (_) (fun vs w hK => wantsF rfl (fv (hK 14 (by decide)))) (fun hG vs w hK => ⟨(rho_out rfl rfl), trivial⟩) rfl (fun hG wq hI => by exact run_load_op rfl rfl (load_ent (HG4.out.below hI).b)) ?_
      refine w_callG [(63, _), (64, _)] _ _ (by decide) (fun vs w hK => wantsF rfl (fv (hK 14 (by decide)))) (fun hG vs w hK => ⟨(rho_in rfl (fvg (hK 15 (by decide)) hG)), (rho_in rfl (fvg (hK 16 (by decide)) hG)), trivial⟩) rfl rfl Try.func12 (by kernel_rfl) rfl (fun hG wq hI => Cxy.out wq) (margs rfl) ?_
      refine w_valG [(65, _)] (_) (fun vs w hK => wantsF rfl (fv (hK 14 (by decide)))) (fun hG vs w hK => ⟨(rho_in rfl (fvg (hK 17 (by decide)) hG)), trivial⟩) rfl (fun hG wq hI => by exact run_int_eql rfl rfl rfl rfl) ?_
      refine w_valG [(3, _)] (_) (fun vs w hK => wantsF rfl (fv (hK 14 (by decide)))) (fun hG vs w hK => ⟨(rho_out rfl rfl), trivial⟩) rfl (fun hG wq hI => by simp only [execOp, Option.map_some, Option.map_none, lk_tmp, lk_const, lkT_cons, ↓reduceIte, Nat.reduceEqDiff]; go_simp; (first | done | rfl)) ?_
      refine w_valG [(67, _)] (_) (fun vs w hK => wantsF rfl (fv (hK 14 (by decide)))) (fun hG vs w hK => ⟨(rho_in rfl (fvg (hK 19 (by decide)) hG)), trivial⟩) rfl (fun hG wq hI => by exact run_load_cell rfl rfl rfl Try.underlying9 rfl (cell_ent (HG4.out.below hI).a (by rw [HXX.out]; rfl))) ?_
      refine w_valG [(4, _)] (_) (fun vs w hK => wantsF rfl (fv (hK 14 (by decide)))) (fun hG vs w hK => ⟨(rho_out rfl rfl), trivial⟩) rfl (fun hG wq hI => by simp only [execOp, Option.map_some, Option.map_none, lk_tmp, lk_const, lkT_cons, ↓reduceIte, Nat.reduceEqDiff]; go_simp; (first | done | rfl)) ?_
      refine w_valG [(69, _)] (_) (fun vs w hK => wantsF rfl (fv (hK 14 (by decide)))) (fun hG vs w hK => ⟨(rho_in rfl (fvg (hK 21 (by decide)) hG)), trivial⟩) rfl (fun hG wq hI => by exact run_load_cell rfl rfl rfl Try.underlying9 rfl (cell_ent (HG4.out.below hI).b (by rw [HYY.out]; rfl))) ?_
      refine w_valG [(68, _), (70, _)] (_) (fun vs w hK => wantsF rfl (fv (hK 14 (by decide)))) (fun hG vs w hK => ⟨(rho_in rfl (fvg (hK 20 (by decide)) hG)), (rho_in rfl (fvg (hK 22 (by decide)) hG)), trivial⟩) rfl (fun hG wq hI => by exact op_str_eq rfl rfl rfl rfl) ?_
      refine w_moveG (.inl rfl) (fun vs w hK => wantsF rfl (fv (hK 14 (by decide)))) (fun hG vs w hK => (rho_in rfl (fvg (hK 23 (by decide)) hG))) ?_
      refine w_valG [(3, _)] (_) (fun vs w hK => wantsTg rfl (fv (hK 24 (by decide)))) (fun hG vs w hK => ⟨(rho_out rfl rfl), trivial⟩) rfl (fun hG wq hI => by simp only [execOp, Option.map_some, Option.map_none, lk_tmp, lk_const, lkT_cons, ↓reduceIte, Nat.reduceEqDiff]; go_simp; (first | done | rfl)) ?_
      refine w_valG [(73, _)] (_) (fun vs w hK => wantsTg rfl (fv (hK 24 (by decide)))) (fun hG vs w hK => ⟨(rho_in rfl (fvg (hK 25 (by decide)) hG)), trivial⟩) rfl (fun hG wq hI => by exact run_load_cell rfl rfl rfl Try.underlying22 rfl (cell_ent (HG4.out.below hI).a (by rw [HXX.out]; rfl))) ?_
      refine w_valG [(4, _)] (_) (fun vs w hK => wantsTg rfl (fv (hK 24 (by decide)))) (fun hG vs w hK => ⟨(rho_out rfl rfl), trivial⟩) rfl (fun hG wq hI => by simp only [execOp, Option.map_some, Option.map_none, lk_tmp, lk_const, lkT_cons, ↓reduceIte, Nat.reduceEqDiff]; go_simp; (first | done | rfl)) ?_
      refine w_valG [(75, _)] (_) (fun vs w hK => wantsTg rfl (fv (hK 24 (by decide)))) (fun hG vs w hK => ⟨(rho_in rfl (fvg (hK 27 (by decide)) hG)), trivial⟩) rfl (fun hG wq hI => by exact run_load_cell rfl rfl rfl Try.underlying22 rfl (cell_ent (HG4.out.below hI).b (by rw [HYY.out]; rfl))) ?_
      refine w_valG [(74, _), (76, _)] (_) (fun vs w hK => wantsTg rfl (fv (hK 24 (by decide)))) (fun hG vs w hK => ⟨(rho_in rfl (fvg (hK 26 (by decide)) hG)), (rho_in rfl (fvg (hK 28 (by decide)) hG)), trivial⟩) rfl (fun hG wq hI => by exact run_int_eql rfl rfl rfl rfl) ?_
      refine w_andG rfl (fun vs w hK => wantsF rfl (fv (hK 14 (by decide)))) (fun hG vs w hK => (rho_in rfl (fvg (hK 24 (by decide)) hG))) (fun hG hB vs w hK => (rho_in rfl (fvg (hK 29 (by decide)) (gand hG hB)))) ?_
      refine w_valG [(66, _), (78, _)] (_) (fun vs w hK => wantsF rfl (fv (hK 14 (by decide)))) (fun hG vs w hK => ⟨(rho_in rfl (fvg (hK 18 (by decide)) hG)), (rho_in rfl (fvg (hK 30 (by decide)) hG)), trivial⟩) rfl (fun hG wq hI => by exact op_bool_neq (r := false) rfl rfl Try.underlying4 rfl HZ0.out) ?_
      refine w_or rfl (fun vs w hK => wants_none rfl) (fun vs w hK => (rho_in rfl (fv (hK 14 (by decide))))) (fun hB vs w hK => (rho_in rfl (fvg (hK 31 (by decide)) (gnot hB)))) ?_
      refine w_end rfl rfl rfl (fun vs wq hI hF => ?_)
      simp only [List.reverse_cons, List.reverse_nil, List.nil_append, List.cons_append, finL_val, finL_of, finL_any, finL_app, finL_new, finL_gr, finL_row, finL_box, finL_nil, Act.put, List.setIfInBounds_toArray, List.set_cons_zero, List.set_cons_succ, Nat.reduceAdd]
      have HG5 := Lib.hid (HG4.out.below hI)
      have HW5 := Lib.hid (below_then HW4.out HW4.out.size hI)
      clear hI hF
      obtain ⟨w5, rfl⟩ : ∃ w5 : World, w5 = wq := ⟨_, rfl⟩
      go_upto_region 12 with fail
      refine plain_ (fun wq => Below w5.heap.size w5 wq) (fun _ => True) reg_3_12 rfl inv0 (fun _ _ _ _ => trivial) (Below.refl _ _) trivial ?_
      refine w_val [(3, _)] (_) (fun vs w hK => ⟨wants_none rfl, rho_out rfl rfl, trivial⟩) rfl (fun wq hI => by exact run_load_op rfl rfl (load_ent (HG5.out.below hI).a)) ?_
      refine w_val [(4, _)] (_) (fun vs w hK => ⟨wants_none rfl, rho_out rfl rfl, trivial⟩) rfl (fun wq hI => by exact run_load_op rfl rfl (load_ent (HG5.out.below hI).b)) ?_
      refine w_call [(81, _), (82, _)] _ _ (by decide) (fun vs w hK => ⟨wants_none rfl, rho_in rfl (fv (hK 0 (by decide))), rho_in rfl (fv (hK 1 (by decide))), trivial⟩) rfl rfl Try.func12 (by kernel_rfl) rfl (fun wq hI => Cxy.out wq) (margs rfl) ?_
      refine w_val [(83, _)] (_) (fun vs w hK => ⟨wants_none rfl, rho_in rfl (fv (hK 2 (by decide))), trivial⟩) rfl (fun wq hI => by exact run_int_lss rfl rfl rfl rfl) ?_
      refine w_move (.inl rfl) (fun vs w hK => ⟨wants_none rfl, rho_in rfl (fv (hK 3 (by decide)))⟩) ?_
      refine w_valG [(4, _)] (_) (fun vs w hK => wantsT rfl (fv (hK 4 (by decide)))) (fun hG vs w hK => ⟨(rho_out rfl rfl), trivial⟩) rfl (fun hG wq hI => by exact run_load_op rfl rfl (load_ent (HG5.out.below hI).b)) ?_
      refine w_valG [(5, _)] (_) (fun vs w hK => wantsT rfl (fv (hK 4 (by decide)))) (fun hG vs w hK => ⟨(rho_out rfl rfl), trivial⟩) rfl (fun hG wq hI => by exact run_load_op rfl rfl (load_ent (HG5.out.below hI).c)) ?_
      refine w_callG [(86, _), (87, _)] _ _ (by decide) (fun vs w hK => wantsT rfl (fv (hK 4 (by decide)))) (fun hG vs w hK => ⟨(rho_in rfl (fvg (hK 5 (by decide)) hG)), (rho_in rfl (fvg (hK 6 (by decide)) hG)), trivial⟩) rfl rfl Try.func12 (by kernel_rfl) rfl (fun hG wq hI => Cyz.out wq) (margs rfl) ?_
      refine w_valG [(88, _)] (_) (fun vs w hK => wantsT rfl (fv (hK 4 (by decide)))) (fun hG vs w hK => ⟨(rho_in rfl (fvg (hK 7 (by decide)) hG)), trivial⟩) rfl (fun hG wq hI => by exact run_int_lss rfl rfl rfl rfl) ?_
      refine w_and rfl (fun vs w hK => wants_none rfl) (fun vs w hK => (rho_in rfl (fv (hK 4 (by decide))))) (fun hB vs w hK => (rho_in rfl (fvg (hK 8 (by decide)) hB))) ?_
      refine w_move (.inl rfl) (fun vs w hK => ⟨wants_none rfl, rho_in rfl (fv (hK 9 (by decide)))⟩) ?_
      refine w_valG [(3, _)] (_) (fun vs w hK => wantsT rfl (fv (hK 10 (by decide)))) (fun hG vs w hK => ⟨(rho_out rfl rfl), trivial⟩) rfl (fun hG wq hI => by exact run_load_op rfl rfl (load_ent (HG5.out.below hI).a)) ?_
      refine w_valG [(5, _)] (_) (fun vs w hK => wantsT rfl (fv (hK 10 (by decide)))) (fun hG vs w hK => ⟨(rho_out rfl rfl), trivial⟩) rfl (fun hG wq hI => by exact run_load_op rfl rfl (load_ent (HG5.out.below hI).c)) ?_
      refine w_callG [(92, _), (93, _)] _ _ (by decide) (fun vs w hK => wantsT rfl (fv (hK 10 (by decide)))) (fun hG vs w hK => ⟨(rho_in rfl (fvg (hK 11 (by decide)) hG)), (rho_in rfl (fvg (hK 12 (by decide)) hG)), trivial⟩) rfl rfl Try.func12 (by kernel_rfl) rfl (fun hG wq hI => Cxz.out wq) (margs rfl) ?_
      refine w_valG [(94, _)] (_) (fun vs w hK => wantsT rfl (fv (hK 10 (by decide)))) (fun hG vs w hK => ⟨(rho_in rfl (fvg (hK 13 (by decide)) hG)), trivial⟩) rfl (fun hG wq hI => by exact run_int_geq rfl rfl rfl rfl) ?_
      refine w_and rfl (fun vs w hK => wants_none rfl) (fun vs w hK => (rho_in rfl (fv (hK 10 (by decide))))) (fun hB vs w hK => (rho_in rfl (fvg (hK 14 (by decide)) hB))) ?_
      refine w_as (c' := .bool false) (congrArg Value.bool HTR.out) ?_
      refine w_end rfl rfl rfl (fun vs wq hI hF => ?_)
      simp only [List.reverse_cons, List.reverse_nil, List.nil_append, List.cons_append, finL_val, finL_of, finL_any, finL_app, finL_new, finL_gr, finL_row, finL_box, finL_nil, Act.put, List.setIfInBounds_toArray, List.set_cons_zero, List.set_cons_succ, Nat.reduceAdd]
      have HG6 := Lib.hid (HG5.out.below hI)
      have HW6 := Lib.hid (below_then HW5.out HW5.out.size hI)
      clear hI hF
      obtain ⟨w6, rfl⟩ : ∃ w6 : World, w6 = wq := ⟨_, rfl⟩
      go_upto_region 14 with fail
      refine draws_ (fun wq => Below w6.heap.size w6 wq) (fun _ => True) (by kernel_rfl) reg_3_14 rfl inv0 (fun _ _ _ _ => trivial) (below_drew (Below.refl _ _)) trivial ?_
      refine w_val [(3, _)] _ (fun vs w hK => ⟨wants_none rfl, rho_out rfl rfl, trivial⟩) rfl (fun wq hI => by simp only [execOp, Option.map_some, Option.map_none, lk_tmp, lk_const, lkT_cons, ↓reduceIte, Nat.reduceEqDiff]; go_simp; (first | done | rfl)) ?_
      refine w_val [(97, _)] (_) (fun vs w hK => ⟨wants_none rfl, rho_in rfl (fv (hK 0 (by decide))), trivial⟩) rfl (fun wq hI => by exact run_load_cell rfl rfl rfl Try.underlying9 rfl (cell_ent (HG6.out.below hI).a (by rw [HXX.out]; rfl))) ?_
      refine w_val [(4, _)] _ (fun vs w hK => ⟨wants_none rfl, rho_out rfl rfl, trivial⟩) rfl (fun wq hI => by simp only [execOp, Option.map_some, Option.map_none, lk_tmp, lk_const, lkT_cons, ↓reduceIte, Nat.reduceEqDiff]; go_simp; (first | done | rfl)) ?_
      refine w_val [(99, _)] (_) (fun vs w hK => ⟨wants_none rfl, rho_in rfl (fv (hK 2 (by decide))), trivial⟩) rfl (fun wq hI => by exact run_load_cell rfl rfl rfl Try.underlying9 rfl (cell_ent (HG6.out.below hI).b (by rw [HYY.out]; rfl))) ?_
      refine w_val [(98, _), (100, _)] (_) (fun vs w hK => ⟨wants_none rfl, rho_in rfl (fv (hK 1 (by decide))), rho_in rfl (fv (hK 3 (by decide))), trivial⟩) rfl (fun wq hI => by exact op_str_eq rfl rfl rfl rfl) ?_
      refine w_move (.inl rfl) (fun vs w hK => ⟨wants_none rfl, rho_in rfl (fv (hK 4 (by decide)))⟩) ?_
      refine w_valG [(3, _)] (_) (fun vs w hK => wantsF rfl (fv (hK 5 (by decide)))) (fun hG vs w hK => ⟨(rho_out rfl rfl), trivial⟩) rfl (fun hG wq hI => by exact run_load_op rfl rfl (load_ent (HG6.out.below hI).a)) ?_
      refine w_valG [(4, _)] (_) (fun vs w hK => wantsF rfl (fv (hK 5 (by decide)))) (fun hG vs w hK => ⟨(rho_out rfl rfl), trivial⟩) rfl (fun hG wq hI => by exact run_load_op rfl rfl (load_ent (HG6.out.below hI).b)) ?_
      refine w_callG [(103, _), (104, _)] _ _ (by decide) (fun vs w hK => wantsF rfl (fv (hK 5 (by decide)))) (fun hG vs w hK => ⟨(rho_in rfl (fvg (hK 6 (by decide)) hG)), (rho_in rfl (fvg (hK 7 (by decide)) hG)), trivial⟩) rfl rfl Try.func12 (by kernel_rfl) rfl (fun hG wq hI => Cxy.out wq) (margs rfl) ?_
      refine w_valG [(105, _)] (_) (fun vs w hK => wantsF rfl (fv (hK 5 (by decide)))) (fun hG vs w hK => ⟨(rho_in rfl (fvg (hK 8 (by decide)) hG)), trivial⟩) rfl (fun hG wq hI => by exact run_int_lss rfl rfl rfl rfl) ?_
      refine w_valG [(3, _)] (_) (fun vs w hK => wantsF rfl (fv (hK 5 (by decide)))) (fun hG vs w hK => ⟨(rho_out rfl rfl), trivial⟩) rfl (fun hG wq hI => by simp only [execOp, Option.map_some, Option.map_none, lk_tmp, lk_const, lkT_cons, ↓reduceIte, Nat.reduceEqDiff]; go_simp; (first | done | rfl)) ?_
      refine w_valG [(107, _)] (_) (fun vs w hK => wantsF rfl (fv (hK 5 (by decide)))) (fun hG vs w hK => ⟨(rho_in rfl (fvg (hK 10 (by decide)) hG)), trivial⟩) rfl (fun hG wq hI => by exact run_load_cell rfl rfl rfl Try.underlying9 rfl (cell_ent (HG6.out.below hI).a (by rw [HXX.out]; rfl))) ?_
      refine w_valG [(4, _)] (_) (fun vs w hK => wantsF rfl (fv (hK 5 (by decide)))) (fun hG vs w hK => ⟨(rho_out rfl rfl), trivial⟩) rfl (fun hG wq hI => by simp only [execOp, Option.map_some, Option.map_none, lk_tmp, lk_const, lkT_cons, ↓reduceIte, Nat.reduceEqDiff]; go_simp; (first | done | rfl)) ?_
      refine w_valG [(109, _)] (_) (fun vs w hK => wantsF rfl (fv (hK 5 (by decide)))) (fun hG vs w hK => ⟨(rho_in rfl (fvg (hK 12 (by decide)) hG)), trivial⟩) rfl (fun hG wq hI => by exact run_load_cell rfl rfl rfl Try.underlying9 rfl (cell_ent (HG6.out.below hI).b (by rw [HYY.out]; rfl))) ?_
      refine w_valG [(108, _), (110, _)] (_) (fun vs w hK => wantsF rfl (fv (hK 5 (by decide)))) (fun hG vs w hK => ⟨(rho_in rfl (fvg (hK 11 (by decide)) hG)), (rho_in rfl (fvg (hK 13 (by decide)) hG)), trivial⟩) rfl (fun hG wq hI => by exact op_str_lss rfl rfl rfl rfl) ?_
      refine w_valG [(106, _), (111, _)] (_) (fun vs w hK => wantsF rfl (fv (hK 5 (by decide)))) (fun hG vs w hK => ⟨(rho_in rfl (fvg (hK 9 (by decide)) hG)), (rho_in rfl (fvg (hK 14 (by decide)) hG)), trivial⟩) rfl (fun hG wq hI => by exact op_bool_eql rfl rfl Try.underlying4 rfl rfl) ?_
      refine w_or rfl (fun vs w hK => wants_none rfl) (fun vs w hK => (rho_in rfl (fv (hK 5 (by decide))))) (fun hB vs w hK => (rho_in rfl (fvg (hK 15 (by decide)) (gnot hB)))) ?_
      refine w_as (c' := .bool true) (congrArg Value.bool HLS.out) ?_
      refine w_move (.inr rfl) (fun vs w hK => ⟨wants_none rfl, rho_in rfl (fv (hK 16 (by decide)))⟩) ?_
      refine w_end rfl rfl rfl (fun vs wq hI hF => ?_)
      simp only [List.reverse_cons, List.reverse_nil, List.nil_append, List.cons_append, finL_val, finL_of, finL_any, finL_app, finL_new, finL_gr, finL_row, finL_box, finL_nil, Act.put, List.setIfInBounds_toArray, List.set_cons_zero, List.set_cons_succ, Nat.reduceAdd]
      have HW7 := Lib.hid (below_then HW6.out HW6.out.size hI)
      clear hI hF
      go_wp2_with fail
      go_ret
      exact ⟨rfl, HW7.out⟩
end Go.Proofs.Ytgnicgcdhldmmaa.Key

