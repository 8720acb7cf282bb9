/- The walk of the law KeyInners. -/
import Derived.Test.YtgnicgcdhldmmaaKeyE
import Derived.Test.YtgnicgcdhldmmaaKeyG
import Derived.Test.YtgnicgcdhldmmaaKeyH
import Derived.Test.YtgnicgcdhldmmaaOps
namespace Go.Proofs.Ytgnicgcdhldmmaa.Key
set_option linter.unusedVariables false
set_option linter.unusedSimpArgs false
open Go.Proofs.Ytgnicgcdhldmmaa.Kit Go.Proofs.Ytgnicgcdhldmmaa.Num Go.RowKit Go.Proofs.YtgnicgcdhldmmaaW.PrintWords Go.Proofs.YtgnicgcdhldmmaaW.PrintLast Go.Proofs.YtgnicgcdhldmmaaW.PrintMore NumPure
structure Box2 (g : Nat) (x y : Ent) (w : World) : Prop where
  a : w.heap[g]? = some (.cells x.cells.toArray 24)
  b : w.heap[g + 1]? = some (.cells y.cells.toArray 24)
theorem Box2.below {g : Nat} {x y : Ent} {w w' : World} (h : Box2 g x y w) (hb : Below w.heap.size w w') : Box2 g x y w' := ⟨box_below h.a hb, box_below h.b hb⟩
theorem box2_new (w : World) (x y : Ent) : Box2 w.heap.size x y ((w.alloc (.cells x.cells.toArray 24)).alloc (.cells y.cells.toArray 24)) :=
  ⟨(heap_alloc_old _ _ (by simp)).trans (heap_alloc_new w _), by have := heap_alloc_new (w.alloc (.cells x.cells.toArray 24)) (.cells y.cells.toArray 24); simpa using this⟩
theorem strOf_one (s : ByteArray) (k : Nat) (hk : k < s.size) (c : Int) (hc : (numsOf s).getD k 0 = c) : s.extract k (k + 1) = strOfNums [c] := by
  have hl : k < (numsOf s).length := by rw [numsOf_length]; exact hk
  have h1 : numsOf (s.extract k (k + 1)) = [c] := by
    rw [numsOf_extract, show k + 1 - k = 1 by omega, List.drop_eq_getElem_cons hl]
    rw [List.getD_eq_getElem?_getD, List.getElem?_eq_getElem hl, Option.getD_some] at hc
    rw [hc]
    rfl
  rw [← strOfNums_numsOf (s.extract k (k + 1)), h1]
theorem shr_pow (N j : Nat) (hj : j < 8) : (N : Int) / 2 ^ min ((8 * j : Nat) : Int).toNat 64 = ((N / 256 ^ j : Nat) : Int) := by
  rw [Int.toNat_natCast, Nat.min_eq_left (by omega), show (256 : Nat) ^ j = 2 ^ (8 * j) by rw [show (256 : Nat) = 2 ^ 8 from rfl, ← Nat.pow_mul]]
  rw [Int.natCast_ediv, Int.natCast_pow]
  rfl
theorem reg_4_3 : RegOk (opsOf Try.f4 3) [[], [0], [0, 1], [0, 1, 2], [0, 1, 2, 3], [0, 1, 2, 3, 4], [0, 1, 2, 3, 4, 5], [0, 1, 2, 3, 4, 5, 6], [0, 1, 2, 3, 4, 5, 6, 7], [0, 1, 2, 3, 4, 5, 6, 7, 8], [0, 1, 2, 3, 4, 5, 6, 7, 8, 9], [0, 1, 2, 3, 4, 5, 6, 7, 8, 9, 10], [0, 1, 2, 3, 4, 5, 6, 7, 8, 9, 10, 11], [0, 1, 2, 3, 4, 5, 6, 7, 8, 9, 10, 11, 12], [0, 1, 2, 3, 4, 5, 6, 7, 8, 9, 10, 11, 12, 13], [0, 1, 2, 3, 4, 5, 6, 7, 8, 9, 10, 11, 12, 13, 14]] [] [some 14, some 15, some 16, some 17, some 18, some 19, some 20, some 21, some 22, some 23, some 24, some 25, some 26, some 27, some 28, some 29] := regOk (by kernel_rfl)
theorem reg_4_13 : RegOk (opsOf Try.f4 13) [[], [], [1], [], [], [4], [1, 2, 3, 4, 5], [0, 1, 2, 3, 4, 5, 6], [0, 1, 2, 3, 4, 5, 6, 7]] [] [some 47, some 48, some 49, some 50, some 51, some 52, some 53, some 54, some 7] := regOk (by kernel_rfl)
theorem reg_4_15 : RegOk (opsOf Try.f4 15) [[], [0], [0, 1]] [] [some 60, some 61, some 7] := regOk (by kernel_rfl)
theorem reg_4_16 : RegOk (opsOf Try.f4 16) [[], [0], [0, 1]] [] [some 62, some 63, some 7] := regOk (by kernel_rfl)
theorem reg_4_20 : RegOk (opsOf Try.f4 20) [[], [], [], [2], [2, 3], [1, 2, 3, 4], [1, 2, 3, 4, 5], [1, 2, 3, 4, 5, 6], [1, 2, 3, 4, 5, 6, 7], [1, 2, 3, 4, 5, 6, 7, 8], [1, 2, 3, 4, 5, 6, 7, 8, 9], [0, 1, 2, 3, 4, 5, 6, 7, 8, 9, 10], [0, 1, 2, 3, 4, 5, 6, 7, 8, 9, 10, 11]] [] [some 68, some 69, some 70, some 71, some 72, some 73, some 74, some 75, some 76, some 77, some 78, some 79, some 7] := regOk (by kernel_rfl)
theorem reg_4_22 : RegOk (opsOf Try.f4 22) [[], [], [0, 1], [0, 1, 2], [0, 1, 2, 3], [0, 1, 2, 3, 4], [0, 1, 2, 3, 4, 5], [0, 1, 2, 3, 4, 5, 6], [0, 1, 2, 3, 4, 5, 6, 7], [0, 1, 2, 3, 4, 5, 6, 7, 8], [0, 1, 2, 3, 4, 5, 6, 7], [0, 1, 2, 3, 4, 5, 6, 7, 10], [0, 1, 2, 3, 4, 5, 6, 7, 8, 9, 10, 11], [0, 1, 2, 3, 4, 5, 6, 7, 8, 9, 10, 11, 12], [0, 1, 2, 3, 4, 5, 6, 7, 8, 9, 10, 11, 12, 13], [0, 1, 2, 3, 4, 5, 6, 7, 8, 9, 10, 11, 12, 13, 14], [0, 1, 2, 3, 4, 5, 6, 7, 8, 9, 10, 11, 12, 13, 14, 15], [0, 1, 2, 3, 4, 5, 6, 7, 8, 9, 10, 11, 12, 13, 14], [0, 1, 2, 3, 4, 5, 6, 7, 8, 9, 10, 11, 12, 13, 14, 17], [0, 1, 2, 3, 4, 5, 6, 7, 8, 9, 10, 11, 12, 13, 14, 15, 16, 17, 18], [0, 1, 2, 3, 4, 5, 6, 7, 8, 9, 10, 11, 12, 13, 14, 15, 16, 17, 18, 19], [0, 1, 2, 3, 4, 5, 6, 7, 8, 9, 10, 11, 12, 13, 14, 15, 16, 17, 18, 19, 20], [0, 1, 2, 3, 4, 5, 6, 7, 8, 9, 10, 11, 12, 13, 14, 15, 16, 17, 18, 19, 20, 21], [0, 1, 2, 3, 4, 5, 6, 7, 8, 9, 10, 11, 12, 13, 14, 15, 16, 17, 18, 19, 20, 21, 22], [0, 1, 2, 3, 4, 5, 6, 7, 8, 9, 10, 11, 12, 13, 14, 15, 16, 17, 18, 19, 20, 21], [0, 1, 2, 3, 4, 5, 6, 7, 8, 9, 10, 11, 12, 13, 14, 15, 16, 17, 18, 19, 20, 21, 24], [0, 1, 2, 3, 4, 5, 6, 7, 8, 9, 10, 11, 12, 13, 14, 15, 16, 17, 18, 19, 20, 21, 22, 23, 24, 25], [0, 1, 2, 3, 4, 5, 6, 7, 8, 9, 10, 11, 12, 13, 14, 15, 16, 17, 18, 19, 20, 21, 22, 23, 24, 25, 26], [0, 1, 2, 3, 4, 5, 6, 7, 8, 9, 10, 11, 12, 13, 14, 15, 16, 17, 18, 19, 20, 21, 22, 23, 24, 25, 26, 27], [0, 1, 2, 3, 4, 5, 6, 7, 8, 9, 10, 11, 12, 13, 14, 15, 16, 17, 18, 19, 20, 21, 22, 23, 24, 25, 26, 27, 28], [0, 1, 2, 3, 4, 5, 6, 7, 8, 9, 10, 11, 12, 13, 14, 15, 16, 17, 18, 19, 20, 21, 22, 23, 24, 25, 26, 27, 28, 29], [0, 1, 2, 3, 4, 5, 6, 7, 8, 9, 10, 11, 12, 13, 14, 15, 16, 17, 18, 19, 20, 21, 22, 23, 24, 25, 26, 27, 28, 29, 30], [0, 1, 2, 3, 4, 5, 6, 7, 8, 9, 10, 11, 12, 13, 14, 15, 16, 17, 18, 19, 20, 21, 22, 23, 24, 25, 26, 27, 28, 29, 30, 31]] [] [some 85, some 86, some 87, some 88, some 89, some 90, some 91, some 92, some 93, some 94, some 95, some 96, some 97, some 98, some 99, some 100, some 101, some 102, some 103, some 104, some 105, some 106, some 107, some 108, some 109, some 110, some 111, some 112, some 113, some 114, some 115, some 116, some 117] := regOk (by kernel_rfl)
theorem reg_4_24 : RegOk (opsOf Try.f4 24) [[], [], [0, 1], [0, 1, 2], [0, 1, 2, 3], [0, 1, 2, 3, 4], [0, 1, 2, 3, 4], [0, 1, 2, 3, 4, 5, 6], [0, 1, 2, 3, 4, 5, 6, 7], [0, 1, 2, 3, 4], [0, 1, 2, 3, 4], [0, 1, 2, 3, 4, 5, 6, 7, 10], [0, 1, 2, 3, 4, 5, 6, 7, 9, 10, 11], [0, 1, 2, 3, 4, 5, 6, 7, 8, 9, 10, 11, 12], [0, 1, 2, 3, 4, 5, 6, 7, 8, 9, 10, 11, 12, 13], [0, 1, 2, 3, 4, 5, 6, 7, 8, 9, 10, 11, 12, 13, 14]] [] [some 118, some 119, some 120, some 121, some 122, some 123, some 124, some 125, some 126, some 127, some 128, some 129, some 130, some 131, some 132, some 4] := regOk (by kernel_rfl)
set_option maxRecDepth 20000 in
set_option maxHeartbeats 80000000 in
theorem inners_any (K : ByteArray) (s' : Int) (d : Bool) (V : ByteArray) (K2 : ByteArray) (s2' : Int) (d2 : Bool) (V2 : ByteArray) (w : World)
    (hk1 : K.size ≤ maxLen) (hs1 : (Lit.int .u64 s').wf = true) (hv1 : V.size ≤ maxLen) (hk2 : K2.size ≤ maxLen) (hs2 : (Lit.int .u64 s2').wf = true) (hv2 : V2.size ≤ maxLen) :
    Calls Try.prog 4 #[.agg ([Value.string K] ++ ([Value.int .u64 s'] ++ ([Value.bool d] ++ ([Value.string V] ++ [])))).toArray, .agg ([Value.string K2] ++ ([Value.int .u64 s2'] ++ ([Value.bool d2] ++ ([Value.string V2] ++ [])))).toArray] w fun e w' => e = .returned (.bool true) ∧ Below w.heap.size w w' := by
  obtain ⟨q0, q1⟩ := wf_u64 hs1
  obtain ⟨s, rfl⟩ : ∃ s : Nat, s' = s := ⟨s'.toNat, by omega⟩
  obtain ⟨q2, q3⟩ := wf_u64 hs2
  obtain ⟨s2, rfl⟩ : ∃ s : Nat, s2' = s := ⟨s2'.toNat, by omega⟩
  have ox : Ent.ok ⟨K, s, d, V⟩ := ⟨by show s < _; omega, hk1, hv1⟩
  have oy : Ent.ok ⟨K2, s2, d2, V2⟩ := ⟨by show s2 < _; omega, hk2, hv2⟩
  change Calls Try.prog 4 #[Ent.ag ⟨K, s, d, V⟩, Ent.ag ⟨K2, s2, d2, V2⟩] w _
  obtain ⟨y, hy⟩ : ∃ y : Ent, y = ⟨K2, s2, d2, V2⟩ := ⟨_, rfl⟩
  obtain ⟨x, hx⟩ : ∃ x : Ent, x = ⟨K, s, d, V⟩ := ⟨_, rfl⟩
  have OX : Hid x.ok := Lib.hid (by rw [hx]; exact ox)
  have OY : Hid y.ok := Lib.hid (by rw [hy]; exact oy)
  rw [← hy, ← hx]
  change Calls Try.prog 4 #[.agg x.cells.toArray, .agg y.cells.toArray] w _
  have HXX := Lib.hid hx
  clear hs1 hs2 q0 q1 q2 q3 hy hk2 hv2 hk1 hv1 ox oy hx
  have HBB := Lib.hid (box2_new w x y)
  have HB0 : Hid (Below w.heap.size w ((w.alloc (.cells x.cells.toArray 24)).alloc (.cells y.cells.toArray 24))) := Lib.hid (below_alloc (below_alloc (Below.refl _ _) _) _)
  go_enter Try.func4, Try.ntmps4
  go_wp2_with fail
  refine (head_any _).mono ?_
  rintro e w1 ⟨rfl, hb1⟩
  have HG1 := Lib.hid (HBB.out.below hb1)
  have HW1 := Lib.hid (below_then HB0.out HB0.out.size hb1)
  clear hb1 HBB HB0
  have CX := Lib.hid (fun wq => big_any x OX.out wq)
  have CY := Lib.hid (fun wq => big_any y OY.out wq)
  have DX := Lib.hid (fun wq => check_any x OX.out wq)
  have DY := Lib.hid (fun wq => check_any y OY.out wq)
  generalize decide (300 < x.key.size ∨ 70000 < x.val.size) = bx at CX
  generalize decide (300 < y.key.size ∨ 70000 < y.val.size) = bY at CY
  obtain ⟨B, hB⟩ : ∃ B : Bool, (bx || bY || ((x.check : Int) != 0) || ((y.check : Int) != 0)) = B := ⟨_, rfl⟩
  go_upto_region 3 with fail
  refine plain_ (fun wq => Below w1.heap.size w1 wq) (fun _ => True) reg_4_3 rfl inv0 (fun _ _ _ _ => trivial) (Below.refl _ _) trivial ?_
  refine w_val [(2, _)] (_) (fun vs w hK => ⟨wants_none rfl, rho_out rfl rfl, trivial⟩) rfl (fun wq hI => by exact run_load_op rfl rfl (load_ent (HG1.out.below hI).a)) ?_
  refine w_call [(14, _)] _ _ (by decide) (fun vs w hK => ⟨wants_none rfl, rho_in rfl (fv (hK 0 (by decide))), trivial⟩) rfl rfl Try.func10 (by kernel_rfl) rfl (fun wq hI => CX.out wq) (margs rfl) ?_
  refine w_move (.inl rfl) (fun vs w hK => ⟨wants_none rfl, rho_in rfl (fv (hK 1 (by decide)))⟩) ?_
  refine w_valG [(3, _)] (_) (fun vs w hK => wantsF rfl (fv (hK 2 (by decide)))) (fun hG vs w hK => ⟨(rho_out rfl rfl), trivial⟩) rfl (fun hG wq hI => by exact run_load_op rfl rfl (load_ent (HG1.out.below hI).b)) ?_
  refine w_callG [(17, _)] _ _ (by decide) (fun vs w hK => wantsF rfl (fv (hK 2 (by decide)))) (fun hG vs w hK => ⟨(rho_in rfl (fvg (hK 3 (by decide)) hG)), trivial⟩) rfl rfl Try.func10 (by kernel_rfl) rfl (fun hG wq hI => CY.out wq) (margs rfl) ?_
  refine w_or rfl (fun vs w hK => wants_none rfl) (fun vs w hK => (rho_in rfl (fv (hK 2 (by decide))))) (fun hB vs w hK => (rho_in rfl (fvg (hK 4 (by decide)) (gnot hB)))) ?_
  refine w_move (.inl rfl) (fun vs w hK => ⟨wants_none rfl, rho_in rfl (fv (hK 5 (by decide)))⟩) ?_
  refine w_valG [(2, _)] (_) (fun vs w hK => wantsF rfl (fv (hK 6 (by decide)))) (fun hG vs w hK => ⟨(rho_out rfl rfl), trivial⟩) rfl (fun hG wq hI => by exact run_load_op rfl rfl (load_ent (HG1.out.below hI).a)) ?_
  refine w_callG [(21, _)] _ _ (by decide) (fun vs w hK => wantsF rfl (fv (hK 6 (by decide)))) (fun hG vs w hK => ⟨(rho_in rfl (fvg (hK 7 (by decide)) hG)), trivial⟩) rfl rfl Try.func11 (by kernel_rfl) rfl (fun hG wq hI => DX.out wq) (margs rfl) ?_
  refine w_valG [(22, _)] (_) (fun vs w hK => wantsF rfl (fv (hK 6 (by decide)))) (fun hG vs w hK => ⟨(rho_in rfl (fvg (hK 8 (by decide)) hG)), trivial⟩) rfl (fun hG wq hI => by exact run_int_neq rfl rfl rfl rfl) ?_
  refine w_or rfl (fun vs w hK => wants_none rfl) (fun vs w hK => (rho_in rfl (fv (hK 6 (by decide))))) (fun hB vs w hK => (rho_in rfl (fvg (hK 9 (by decide)) (gnot hB)))) ?_
  refine w_move (.inl rfl) (fun vs w hK => ⟨wants_none rfl, rho_in rfl (fv (hK 10 (by decide)))⟩) ?_
  refine w_valG [(3, _)] (_) (fun vs w hK => wantsF rfl (fv (hK 11 (by decide)))) (fun hG vs w hK => ⟨(rho_out rfl rfl), trivial⟩) rfl (fun hG wq hI => by exact run_load_op rfl rfl (load_ent (HG1.out.below hI).b)) ?_
  refine w_callG [(26, _)] _ _ (by decide) (fun vs w hK => wantsF rfl (fv (hK 11 (by decide)))) (fun hG vs w hK => ⟨(rho_in rfl (fvg (hK 12 (by decide)) hG)), trivial⟩) rfl rfl Try.func11 (by kernel_rfl) rfl (fun hG wq hI => DY.out wq) (margs rfl) ?_
  refine w_valG [(27, _)] (_) (fun vs w hK => wantsF rfl (fv (hK 11 (by decide)))) (fun hG vs w hK => ⟨(rho_in rfl (fvg (hK 13 (by decide)) hG)), trivial⟩) rfl (fun hG wq hI => by exact run_int_neq rfl rfl rfl rfl) ?_
  refine w_or rfl (fun vs w hK => wants_none rfl) (fun vs w hK => (rho_in rfl (fv (hK 11 (by decide))))) (fun hB vs w hK => (rho_in rfl (fvg (hK 14 (by decide)) (gnot hB)))) ?_
  refine w_as (c' := .bool B) (congrArg Value.bool hB) ?_
  refine w_end rfl rfl rfl (fun vs wq hI hF => ?_)
  simp only [List.reverse_cons, List.reverse_nil, List.nil_append, List.cons_append, finL_val, finL_of, finL_any, finL_app, finL_new, finL_gr, finL_row, finL_box, finL_nil, Act.put, List.setIfInBounds_toArray, List.set_cons_zero, List.set_cons_succ, Nat.reduceAdd]
  have HG2 := Lib.hid (HG1.out.below hI)
  have HW2 := Lib.hid (below_then HW1.out HW1.out.size hI)
  clear hI hF HG1 HW1 CX CY DX DY
  obtain ⟨w2, rfl⟩ : ∃ w2 : World, w2 = wq := ⟨_, rfl⟩
  cases B
  rotate_left
  · clear hB
    go_wp2_with fail
    go_ret
    exact ⟨rfl, HW2.out⟩
  simp only [Bool.or_eq_false_iff] at hB
  obtain ⟨⟨_, hxc'⟩, hyc'⟩ := hB
  have hxc : x.check = 0 := by simp at hxc'; omega
  have hyc : y.check = 0 := by simp at hyc'; omega
  clear hxc' hyc'
  have hnum := (num_of hxc).1
  have hseq := (num_of hxc).2
  obtain ⟨k1, k2, _, _, _⟩ := check_zero.1 hxc
  obtain ⟨m1, m2, _, _, _⟩ := check_zero.1 hyc
  have CI := Lib.hid (fun wq => inner_any x OX.out (by omega) wq)
  have CJ := Lib.hid (fun wq => inner_any y OY.out (by omega) wq)
  have Cxy := Lib.hid (fun wq => cmp_any x y OX.out OY.out wq)
  have HIL : Hid (((x.cmp y == 0) || (decide (x.cmp y < 0) == Op.bytesLess x.inner.toList y.inner.toList)) = true) := Lib.hid (by
    by_cases h : x.cmp y = 0
    · simp [h]
    · rw [inner_less x y hxc hyc h]; simp)
  have hin : x.inner = strOfNums (esc (numsOf x.key) ++ [0, 1] ++ be x.flip 8) := rfl
  have hinn : x.inner.size ≤ 1000 := by
    have h1 := esc_length (numsOf x.key)
    rw [numsOf_length] at h1
    rw [hin, strOf_size, List.length_append, List.length_append, be_length]
    simp
    omega
  have CO := Lib.hid (fun wq => outer_any x.inner (by omega) wq)
  have hbyx : Byte x.inL := by
    unfold Ent.inL
    refine Byte.append (Byte.append (fun c hc => ?_) (fun c hc => ?_)) (be_byte _ _)
    · unfold esc at hc
      rw [List.mem_flatMap] at hc
      obtain ⟨d, hd, hc⟩ := hc
      have := numsOf_byte x.key d hd
      split at hc <;> simp at hc <;> omega
    · simp at hc
      omega
  have hino : outer (numsOf x.inner) = some x.bare := by
    rw [show x.inner = strOfNums x.inL from rfl, numsOf_strOfNums _ hbyx]
    exact outer_inner x hxc
  rw [hino] at CO
  have hft : ∀ m, m < 8 → (be x.flip 8).take (8 - m) = (be x.flip 8).take (8 - (m + 1)) ++ [((255 - x.num / 256 ^ m % 256 : Nat) : Int)] := flip_take x
  have hfl : (be x.flip 8).length = 8 := be_length _ _
  have hN0 : x.num < 18446744073709551616 := num_lt x
  have kK : x.key = K := by rw [HXX.out]
  have kS : x.seq = s := by rw [HXX.out]
  have kD : x.del = d := by rw [HXX.out]
  rw [kK] at hin k1 k2
  rw [kS] at hnum hseq
  rw [kD] at hnum
  have hbc : x.bare.cells = [.string K, .int .u64 s, .bool d, .string ⟨#[]⟩] := by rw [HXX.out]; rfl
  have CO2 : Hid (∀ wq, Calls Try.prog 14 #[.string x.inner] wq fun e w' => e = .returned (.tuple #[.agg #[.string K, .int .u64 s, .bool d, .string ⟨#[]⟩], .int .i64 0]) ∧ Below wq.heap.size wq w') := Lib.hid (fun wq => by
    have := CO.out wq
    rw [show (told (some x.bare)).1.ag = .agg #[.string K, .int .u64 s, .bool d, .string ⟨#[]⟩] by show Value.agg x.bare.cells.toArray = _; rw [hbc]] at this
    exact this)
  have HKS := Lib.hid k2
  clear CO hino hbyx hbc kS kD kK k1 k2 m1 m2 hxc hyc OX OY
  generalize x.cmp y = c at Cxy HIL
  generalize x.num = N at hnum hft hN0
  generalize be x.flip 8 = FL at hin hft hfl
  generalize x.inner = R at CI CO2 HIL hin hinn
  generalize y.inner = R2 at CJ HIL
  have HIN := Lib.hid hin
  have HNUM := Lib.hid hnum
  have HFT := Lib.hid hft
  have HN0 := Lib.hid hN0
  clear hin hnum hft hN0 hinn
  have hll := numsOf_length K
  have hbt := numsOf_isByte K
  obtain ⟨n, hn⟩ : ∃ n, n = K.size := ⟨_, rfl⟩
  obtain ⟨L, hL⟩ : ∃ L, L = numsOf K := ⟨_, rfl⟩
  rw [← hL, ← hn] at hll
  rw [← hL] at hbt
  have hn2 : n ≤ 128 := by rw [hn]; exact HKS.out
  have HIN2 : Hid (R = strOfNums (esc L ++ [0, 1] ++ FL)) := Lib.hid (by rw [hL]; exact HIN.out)
  have HLL := Lib.hid hll
  have HL := Lib.hid hL
  have HN := Lib.hid hn
  have HBT := Lib.hid hbt
  have HFLL := Lib.hid hfl
  clear hll hbt hL hn hfl HIN
  go_upto_region 5 with fail
  go_wp2_with (refine wpList_load_box rfl 24 (.tmp 2) rfl w.heap.size x.cells rfl HG2.out.a Try.underlying24 rfl (by show _ = some 4; kernel_rfl) ?_)
  refine (CI.out _).mono ?_
  rintro e w3 ⟨rfl, hb3⟩
  have HG3 := Lib.hid (HG2.out.below hb3)
  have HW3 := Lib.hid (below_then HW2.out HW2.out.size hb3)
  clear hb3 CI HG2 HW2
  have c1 : w3.cell? ⟨w.heap.size, 1, none⟩ = some (.int .u64 s) := cell_ent HG3.out.a (by rw [HXX.out]; rfl)
  have c2 : w3.cell? ⟨w.heap.size, 2, none⟩ = some (.bool d) := cell_ent HG3.out.a (by rw [HXX.out]; rfl)
  have HWR : Hid (∀ u : Nat, u < 18446744073709551616 → IntKind.u64.wrap (u : Int) = (u : Int)) := Lib.hid (fun u h => wrap_nat u h)
  cases d
  · obtain ⟨u, hu⟩ : ∃ u : Nat, u = 2 * s := ⟨_, rfl⟩
    have hu2 : IntKind.u64.wrap ((s : Int) * 2) = (u : Int) := by rw [show (s : Int) * 2 = ((u : Nat) : Int) by omega]; exact HWR.out u (by omega)
    have hg2 : IntKind.u64.wrap ((u : Int) + 1) = (N : Int) := by rw [show (u : Int) + 1 = ((u + 1 : Nat) : Int) by omega, HWR.out _ (by omega)]; have := HNUM.out; simp at this; omega
    clear hu
    go_wp2_with fail
    go_loopw [7, 8] (fun v i wr => ∃ k : Nat, v = .string (strOfNums (esc (L.take k))) ∧ i = .int .i64 k ∧ k ≤ n ∧ Hid (Below w3.heap.size w3 wr)) (fun _ i _ => n - (intOf i).toNat)
    case atStart => exact ⟨0, rfl, rfl, Nat.zero_le _, Lib.hid (Below.refl _ _)⟩
    case round =>
      obtain ⟨k, rfl, rfl, hk, HB⟩ := hrel
      have hel := esc_length (L.take k)
      rw [List.length_take, HLL.out] at hel
      have cR : wr.cell? ⟨w.heap.size, 0, none⟩ = some (.string K) := cell_ent (HG3.out.below HB.out).a (by rw [HXX.out]; rfl)
      by_cases hlt : k < n
      · have t2 : decide ((k : Int) < (K.size : Int)) = true := decide_eq_true (by have := HN.out; omega)
        have hks : k < K.size := by rw [← HN.out]; exact hlt
        obtain ⟨c, hcc⟩ : ∃ c : Nat, (K[k]'hks).toNat = c := ⟨_, rfl⟩
        have hc1 : L.getD k 0 = (c : Int) := by rw [HL.out, ← at_str K k hks, hcc]
        have hsn : esc (L.take (k + 1)) = esc (L.take k) ++ (if (c : Int) = 0 then [0, 255] else [(c : Int)]) := by
          rw [List.take_succ_eq_append_getElem (by rw [HLL.out]; exact hlt), esc_snoc]
          rw [List.getD_eq_getElem?_getD, List.getElem?_eq_getElem (by rw [HLL.out]; exact hlt), Option.getD_some] at hc1
          rw [hc1]
        have hone : K.extract k (k + 1) = strOfNums [(c : Int)] := strOf_one K k hks c (by rw [← HL.out]; exact hc1)
        have HONE := Lib.hid hone
        have HSN := Lib.hid hsn
        clear hc1 hsn hone
        go_upto_region 13 with fail
        refine plain_ (fun wq => Below wr.heap.size wr wq) (fun _ => True) reg_4_13 rfl inv0 (fun _ _ _ _ => trivial) (Below.refl _ _) trivial ?_
        refine w_move (.inl rfl) (fun vs w hK => ⟨wants_none rfl, rho_out rfl rfl⟩) ?_
        refine w_val [(2, _)] _ (fun vs w hK => ⟨wants_none rfl, rho_out rfl rfl, trivial⟩) rfl (fun wq hI => by simp only [execOp, Option.map_some, Option.map_none, lk_tmp, lk_const, lkT_cons, ↓reduceIte, Nat.reduceEqDiff]; go_simp; (first | done | rfl)) ?_
        refine w_val [(48, _)] (_) (fun vs w hK => ⟨wants_none rfl, rho_in rfl (fv (hK 1 (by decide))), trivial⟩) rfl (fun wq hI => by exact run_load_cell rfl rfl rfl Try.underlying9 rfl (below_cell hI cR)) ?_
        refine w_move (.inl rfl) (fun vs w hK => ⟨wants_none rfl, rho_out rfl rfl⟩) ?_
        refine w_move (.inl rfl) (fun vs w hK => ⟨wants_none rfl, rho_out rfl rfl⟩) ?_
        refine w_val [(51, _)] (_) (fun vs w hK => ⟨wants_none rfl, rho_in rfl (fv (hK 4 (by decide))), trivial⟩) rfl (fun wq hI => by exact run_int_add rfl rfl rfl (c := ((k + 1 : Nat) : Int)) (by rw [i64_id (by omega) (by omega)]; omega)) ?_
        refine w_val [(49, _), (50, _), (52, _)] (_) (fun vs w hK => ⟨wants_none rfl, rho_in rfl (fv (hK 2 (by decide))), rho_in rfl (fv (hK 3 (by decide))), rho_in rfl (fv (hK 5 (by decide))), trivial⟩) rfl (fun wq hI => by exact op_cut_mid (a := k) (b := k + 1) rfl Try.underlying9 rfl rfl rfl rfl rfl (by omega) (by omega) HONE.out) ?_
        refine w_val [(47, _), (53, _)] (_) (fun vs w hK => ⟨wants_none rfl, rho_in rfl (fv (hK 0 (by decide))), rho_in rfl (fv (hK 6 (by decide))), trivial⟩) rfl (fun wq hI => by exact run_cat_op rfl rfl rfl (by rw [strOf_size, strOf_size]; simp; omega)) ?_
        refine w_as (c' := .string (strOfNums (esc (L.take k) ++ [(c : Int)]))) (congrArg Value.string (str_append _ _).symm) ?_
        refine w_move (.inr rfl) (fun vs w hK => ⟨wants_none rfl, rho_in rfl (fv (hK 7 (by decide)))⟩) ?_
        refine w_end rfl rfl rfl (fun vs wq hI hF => ?_)
        simp only [List.reverse_cons, List.reverse_nil, List.nil_append, List.cons_append, finL_val, finL_of, finL_any, finL_app, finL_new, finL_gr, finL_row, finL_box, finL_nil, Act.put, List.setIfInBounds_toArray, List.set_cons_zero, List.set_cons_succ, Nat.reduceAdd]
        have HB2 := Lib.hid (below_then HB.out HB.out.size hI)
        have cQ := below_cell hI cR
        clear hI hF cR
        obtain ⟨w4, rfl⟩ : ∃ w4 : World, w4 = wq := ⟨_, rfl⟩
        by_cases hz : c = 0
        · subst hz
          have t3 : (((0 : Nat) : Int) == 0) = true := rfl
          have HS2 := Lib.hid (HSN.out.trans (by rw [if_pos (show ((0 : Nat) : Int) = 0 from rfl)]))
          clear HSN HONE
          go_upto_region 15 with fail
          refine plain_ (fun wq => Below w4.heap.size w4 wq) (fun _ => True) reg_4_15 rfl inv0 (fun _ _ _ _ => trivial) (Below.refl _ _) trivial ?_
          refine w_move (.inl rfl) (fun vs w hK => ⟨wants_none rfl, rho_out rfl rfl⟩) ?_
          refine w_val [(60, _)] (_) (fun vs w hK => ⟨wants_none rfl, rho_in rfl (fv (hK 0 (by decide))), trivial⟩) rfl (fun wq hI => by exact run_cat_op rfl rfl rfl (by rw [strOf_size, List.length_append]; show _ + 1 ≤ _; simp; omega)) ?_
          refine w_as (c' := .string (strOfNums (esc (L.take (k + 1))))) (by rw [HS2.out, show ([0, 255] : List Int) = [((0 : Nat) : Int)] ++ [255] from rfl, ← List.append_assoc, str_append (esc (L.take k) ++ [((0 : Nat) : Int)]) [255]]; rfl) ?_
          refine w_move (.inr rfl) (fun vs w hK => ⟨wants_none rfl, rho_in rfl (fv (hK 1 (by decide)))⟩) ?_
          refine w_end rfl rfl rfl (fun vs wq hI hF => ?_)
          simp only [List.reverse_cons, List.reverse_nil, List.nil_append, List.cons_append, finL_val, finL_of, finL_any, finL_app, finL_new, finL_gr, finL_row, finL_box, finL_nil, Act.put, List.setIfInBounds_toArray, List.set_cons_zero, List.set_cons_succ, Nat.reduceAdd]
          have HB4 := Lib.hid (below_then HB2.out HB2.out.size hI)
          clear hI hF cQ
          go_wp2_with fail
          go_roundw
          case rel => exact ⟨k + 1, rfl, by go_num, by omega, HB4⟩
          case measure => simp [intOf]; omega
        · have t3 : ((c : Int) == 0) = false := by rw [beq_eq_false_iff_ne]; omega
          have hse : esc (L.take k) ++ [(c : Int)] = esc (L.take (k + 1)) := by rw [HSN.out, if_neg (by omega)]
          rw [hse]
          clear HSN HONE hse hz
          go_wp2_with fail
          go_roundw
          case rel => exact ⟨k + 1, rfl, by go_num, by omega, HB2⟩
          case measure => simp [intOf]; omega
      · obtain rfl : k = n := by omega
        have t2 : ¬ k < K.size := by have := HN.out; omega
        have htk : L.take k = L := List.take_of_length_le (by rw [HLL.out]; exact Nat.le_refl _)
        rw [htk] at hel ⊢
        clear hlt htk
        go_upto_region 16 with fail
        refine plain_ (fun wq => Below wr.heap.size wr wq) (fun _ => True) reg_4_16 rfl inv0 (fun _ _ _ _ => trivial) (Below.refl _ _) trivial ?_
        refine w_move (.inl rfl) (fun vs w hK => ⟨wants_none rfl, rho_out rfl rfl⟩) ?_
        refine w_val [(62, _)] (_) (fun vs w hK => ⟨wants_none rfl, rho_in rfl (fv (hK 0 (by decide))), trivial⟩) rfl (fun wq hI => by exact run_cat_op rfl rfl rfl (by rw [strOf_size]; show _ + 2 ≤ _; omega)) ?_
        refine w_as (c' := .string (strOfNums (esc L ++ [0, 1]))) (by rw [str_append]; rfl) ?_
        refine w_move (.inr rfl) (fun vs w hK => ⟨wants_none rfl, rho_in rfl (fv (hK 1 (by decide)))⟩) ?_
        refine w_end rfl rfl rfl (fun vs wq hI hF => ?_)
        simp only [List.reverse_cons, List.reverse_nil, List.nil_append, List.cons_append, finL_val, finL_of, finL_any, finL_app, finL_new, finL_gr, finL_row, finL_box, finL_nil, Act.put, List.setIfInBounds_toArray, List.set_cons_zero, List.set_cons_succ, Nat.reduceAdd]
        have HB2 := Lib.hid (below_then HB.out HB.out.size hI)
        clear hI hF cR HB
        obtain ⟨w4, rfl⟩ : ∃ w4 : World, w4 = wq := ⟨_, rfl⟩
        go_wp2_with fail
        go_loopw [7, 9] (fun v i wr => ∃ m : Nat, v = .string (strOfNums (esc L ++ [0, 1] ++ FL.take (8 - m))) ∧ i = .int .i64 ((m : Int) - 1) ∧ m ≤ 8 ∧ Hid (Below w3.heap.size w3 wr)) (fun _ i _ => (intOf i + 1).toNat)
        case atStart => exact ⟨8, by simp, rfl, Nat.le_refl _, HB2⟩
        case round =>
          obtain ⟨m, rfl, rfl, hm, HB⟩ := hrel
          cases m with
          | succ j =>
            have e1 : ((j + 1 : Nat) : Int) - 1 = (j : Int) := by omega
            rw [e1]
            have t2 : decide ((0 : Int) ≤ (j : Int)) = true := decide_eq_true (by omega)
            have hj8 : j < 8 := by omega
            have hdg : N / 256 ^ j % 256 < 256 := Nat.mod_lt _ (by omega)
            have hdv : N / 256 ^ j ≤ N := Nat.div_le_self _ _
            have hN := HN0.out
            have HFJ := Lib.hid (HFT.out j hj8)
            have hft := List.length_take_le (8 - (j + 1)) FL
            clear e1
            go_upto_region 20 with fail
            refine plain_ (fun wq => Below wr.heap.size wr wq) (fun _ => True) reg_4_20 rfl inv0 (fun _ _ _ _ => trivial) (Below.refl _ _) trivial ?_
            refine w_move (.inl rfl) (fun vs w hK => ⟨wants_none rfl, rho_out rfl rfl⟩) ?_
            refine w_move (.inl rfl) (fun vs w hK => ⟨wants_none rfl, rho_out rfl rfl⟩) ?_
            refine w_move (.inl rfl) (fun vs w hK => ⟨wants_none rfl, rho_out rfl rfl⟩) ?_
            refine w_val [(70, _)] (_) (fun vs w hK => ⟨wants_none rfl, rho_in rfl (fv (hK 2 (by decide))), trivial⟩) rfl (fun wq hI => by exact op_mul rfl rfl rfl (c := ((8 * j : Nat) : Int)) (by rw [i64_id (by omega) (by omega)]; omega)) ?_
            refine w_val [(71, _)] (_) (fun vs w hK => ⟨wants_none rfl, rho_in rfl (fv (hK 3 (by decide))), trivial⟩) rfl (fun wq hI => by exact op_conv_int rfl Try.underlying3 Try.underlying32 rfl (c := ((8 * j : Nat) : Int)) (wrap_nat _ (by omega))) ?_
            refine w_val [(69, _), (72, _)] (_) (fun vs w hK => ⟨wants_none rfl, rho_in rfl (fv (hK 1 (by decide))), rho_in rfl (fv (hK 4 (by decide))), trivial⟩) rfl (fun wq hI => by exact op_shr rfl rfl rfl (by omega) (shr_pow N j hj8)) ?_
            refine w_val [(73, _)] (_) (fun vs w hK => ⟨wants_none rfl, rho_in rfl (fv (hK 5 (by decide))), trivial⟩) rfl (fun wq hI => by exact op_rem rfl rfl rfl (by decide) (c := ((N / 256 ^ j % 256 : Nat) : Int)) (rem_nat _ 256)) ?_
            refine w_val [(74, _)] (_) (fun vs w hK => ⟨wants_none rfl, rho_in rfl (fv (hK 6 (by decide))), trivial⟩) rfl (fun wq hI => by exact run_int_sub rfl rfl rfl (c := ((255 - N / 256 ^ j % 256 : Nat) : Int)) (by rw [show (255 : Int) - ((N / 256 ^ j % 256 : Nat) : Int) = ((255 - N / 256 ^ j % 256 : Nat) : Int) by omega]; exact wrap_nat _ (by omega))) ?_
            refine w_val [(75, _)] (_) (fun vs w hK => ⟨wants_none rfl, rho_in rfl (fv (hK 7 (by decide))), trivial⟩) rfl (fun wq hI => by exact op_conv_int rfl Try.underlying22 Try.underlying5 rfl (c := ((255 - N / 256 ^ j % 256 : Nat) : Int)) (u8_nat _ (by omega))) ?_
            refine w_lit [(76, _)] .u8 [((255 - N / 256 ^ j % 256 : Nat) : Int)] _ tb (fun vs w hK => ⟨wants_none rfl, rho_in rfl (fv (hK 8 (by decide))), trivial⟩) rfl rfl rfl (by decide) (by decide) rfl ?_
            refine w_str (j := 9) Try.underlying9 Try.underlying5 tb rfl rfl (fun vs w hK => wants_none rfl) (fun vs w hK => hK 9 (by decide)) ?_
            refine w_val [(68, _), (78, _)] (_) (fun vs w hK => ⟨wants_none rfl, rho_in rfl (fv (hK 0 (by decide))), rho_in rfl (fv (hK 10 (by decide))), trivial⟩) rfl (fun wq hI => by exact run_cat_op rfl rfl rfl (by rw [strOf_size, strOf_size, List.length_append, List.length_append]; simp; omega)) ?_
            refine w_as (c' := .string (strOfNums (esc L ++ [0, 1] ++ FL.take (8 - j)))) (by rw [HFJ.out, ← List.append_assoc, str_append (esc L ++ [0, 1] ++ FL.take (8 - (j + 1))) [((255 - N / 256 ^ j % 256 : Nat) : Int)]]) ?_
            refine w_move (.inr rfl) (fun vs w hK => ⟨wants_none rfl, rho_in rfl (fv (hK 11 (by decide)))⟩) ?_
            refine w_end rfl rfl rfl (fun vs wq hI hF => ?_)
            simp only [List.reverse_cons, List.reverse_nil, List.nil_append, List.cons_append, finL_val, finL_of, finL_any, finL_app, finL_new, finL_gr, finL_row, finL_box, finL_nil, Act.put, List.setIfInBounds_toArray, List.set_cons_zero, List.set_cons_succ, Nat.reduceAdd]
            have HB4 := Lib.hid (below_then HB.out HB.out.size hI)
            clear hI hF HB HFJ
            obtain ⟨w5, rfl⟩ : ∃ w5 : World, w5 = wq := ⟨_, rfl⟩
            go_wp2_with fail
            go_roundw
            case rel => exact ⟨j, rfl, by go_num, by omega, HB4⟩
            case measure => simp [intOf] <;> omega
          | zero =>
            have t2 : decide ((0 : Int) ≤ ((0 : Nat) : Int) - 1) = false := by decide
            have hR : strOfNums (esc L ++ [0, 1] ++ FL.take (8 - 0)) = R := by rw [HIN2.out, List.take_of_length_le (by rw [HFLL.out]; exact Nat.le_refl _)]
            rw [hR]
            clear hR
            go_wp2_with fail
            refine (CO2.out _).mono ?_
            rintro e w5 ⟨rfl, hb5⟩
            have HG5 := Lib.hid (HG3.out.below (below_then HB.out HB.out.size hb5))
            have HW5 := Lib.hid (below_then HW3.out HW3.out.size (below_then HB.out HB.out.size hb5))
            clear hb5 CO2 HB
            go_upto_region 22 with fail
            have hx6 : (w5.alloc (.cells #[.string K, .int .u64 s, .bool false, .string ⟨#[]⟩] 24)).heap[w5.heap.size]? = some (.cells (Ent.mk K s false ⟨#[]⟩).cells.toArray 24) := heap_alloc_new w5 _
            have hb6 : Below w5.heap.size w5 (w5.alloc (.cells #[.string K, .int .u64 s, .bool false, .string ⟨#[]⟩] 24)) := below_alloc (Below.refl _ _) _
            have HG6 := Lib.hid (HG5.out.below hb6)
            have HW6 := Lib.hid (below_then HW5.out HW5.out.size hb6)
            have HX6 := Lib.hid hx6
            generalize w5.alloc (.cells #[.string K, .int .u64 s, .bool false, .string ⟨#[]⟩] 24) = w6 at HG6 HW6 HX6 ⊢
            clear hx6 hb6 HG5 HW5
            refine plain_ (fun wq => Below w6.heap.size w6 wq) (fun _ => True) reg_4_22 rfl inv0 (fun _ _ _ _ => trivial) (Below.refl _ _) trivial ?_
            refine w_move (.inl rfl) (fun vs w hK => ⟨wants_none rfl, rho_out rfl rfl⟩) ?_
            refine w_move (.inl rfl) (fun vs w hK => ⟨wants_none rfl, rho_out rfl rfl⟩) ?_
            refine w_val [(85, _), (86, _)] (_) (fun vs w hK => ⟨wants_none rfl, rho_in rfl (fv (hK 0 (by decide))), rho_in rfl (fv (hK 1 (by decide))), trivial⟩) rfl (fun wq hI => by exact op_str_nq rfl rfl rfl rfl) ?_
            refine w_move (.inl rfl) (fun vs w hK => ⟨wants_none rfl, rho_in rfl (fv (hK 2 (by decide)))⟩) ?_
            refine w_moveG (.inl rfl) (fun vs w hK => wantsF rfl (fv (hK 3 (by decide)))) (fun hG vs w hK => (rho_out rfl rfl)) ?_
            refine w_valG [(89, _)] (_) (fun vs w hK => wantsF rfl (fv (hK 3 (by decide)))) (fun hG vs w hK => ⟨(rho_in rfl (fvg (hK 4 (by decide)) hG)), trivial⟩) rfl (fun hG wq hI => by exact run_int_neq rfl rfl rfl rfl) ?_
            refine w_or rfl (fun vs w hK => wants_none rfl) (fun vs w hK => (rho_in rfl (fv (hK 3 (by decide))))) (fun hB vs w hK => (rho_in rfl (fvg (hK 5 (by decide)) (gnot hB)))) ?_
            refine w_move (.inl rfl) (fun vs w hK => ⟨wants_none rfl, rho_in rfl (fv (hK 6 (by decide)))⟩) ?_
            refine w_valG [(10, _)] (_) (fun vs w hK => wantsF rfl (fv (hK 7 (by decide)))) (fun hG vs w hK => ⟨(rho_out rfl rfl), trivial⟩) rfl (fun hG wq hI => by simp only [execOp, Option.map_some, Option.map_none, lk_tmp, lk_const, lkT_cons, ↓reduceIte, Nat.reduceEqDiff]; go_simp; (first | done | rfl)) ?_
            refine w_valG [(93, _)] (_) (fun vs w hK => wantsF rfl (fv (hK 7 (by decide)))) (fun hG vs w hK => ⟨(rho_in rfl (fvg (hK 8 (by decide)) hG)), trivial⟩) rfl (fun hG wq hI => by exact run_load_cell rfl rfl rfl Try.underlying9 rfl (cell_ent (box_below HX6.out hI) rfl)) ?_
            refine w_valG [(2, _)] (_) (fun vs w hK => wantsF rfl (fv (hK 7 (by decide)))) (fun hG vs w hK => ⟨(rho_out rfl rfl), trivial⟩) rfl (fun hG wq hI => by simp only [execOp, Option.map_some, Option.map_none, lk_tmp, lk_const, lkT_cons, ↓reduceIte, Nat.reduceEqDiff]; go_simp; (first | done | rfl)) ?_
            refine w_valG [(95, _)] (_) (fun vs w hK => wantsF rfl (fv (hK 7 (by decide)))) (fun hG vs w hK => ⟨(rho_in rfl (fvg (hK 10 (by decide)) hG)), trivial⟩) rfl (fun hG wq hI => by exact run_load_cell rfl rfl rfl Try.underlying9 rfl (cell_ent (HG6.out.below hI).a (by rw [HXX.out]; rfl))) ?_
            refine w_valG [(94, _), (96, _)] (_) (fun vs w hK => wantsF rfl (fv (hK 7 (by decide)))) (fun hG vs w hK => ⟨(rho_in rfl (fvg (hK 9 (by decide)) hG)), (rho_in rfl (fvg (hK 11 (by decide)) hG)), trivial⟩) rfl (fun hG wq hI => by exact op_str_nq rfl rfl rfl rfl) ?_
            refine w_or rfl (fun vs w hK => wants_none rfl) (fun vs w hK => (rho_in rfl (fv (hK 7 (by decide))))) (fun hB vs w hK => (rho_in rfl (fvg (hK 12 (by decide)) (gnot hB)))) ?_
            refine w_move (.inl rfl) (fun vs w hK => ⟨wants_none rfl, rho_in rfl (fv (hK 13 (by decide)))⟩) ?_
            refine w_valG [(10, _)] (_) (fun vs w hK => wantsF rfl (fv (hK 14 (by decide)))) (fun hG vs w hK => ⟨(rho_out rfl rfl), trivial⟩) rfl (fun hG wq hI => by simp only [execOp, Option.map_some, Option.map_none, lk_tmp, lk_const, lkT_cons, ↓reduceIte, Nat.reduceEqDiff]; go_simp; (first | done | rfl)) ?_
            refine w_valG [(100, _)] (_) (fun vs w hK => wantsF rfl (fv (hK 14 (by decide)))) (fun hG vs w hK => ⟨(rho_in rfl (fvg (hK 15 (by decide)) hG)), trivial⟩) rfl (fun hG wq hI => by exact run_load_cell rfl rfl rfl Try.underlying22 rfl (cell_ent (box_below HX6.out hI) rfl)) ?_
            refine w_valG [(2, _)] (_) (fun vs w hK => wantsF rfl (fv (hK 14 (by decide)))) (fun hG vs w hK => ⟨(rho_out rfl rfl), trivial⟩) rfl (fun hG wq hI => by simp only [execOp, Option.map_some, Option.map_none, lk_tmp, lk_const, lkT_cons, ↓reduceIte, Nat.reduceEqDiff]; go_simp; (first | done | rfl)) ?_
            refine w_valG [(102, _)] (_) (fun vs w hK => wantsF rfl (fv (hK 14 (by decide)))) (fun hG vs w hK => ⟨(rho_in rfl (fvg (hK 17 (by decide)) hG)), trivial⟩) rfl (fun hG wq hI => by exact run_load_cell rfl rfl rfl Try.underlying22 rfl (cell_ent (HG6.out.below hI).a (by rw [HXX.out]; rfl))) ?_
            refine w_valG [(101, _), (103, _)] (_) (fun vs w hK => wantsF rfl (fv (hK 14 (by decide)))) (fun hG vs w hK => ⟨(rho_in rfl (fvg (hK 16 (by decide)) hG)), (rho_in rfl (fvg (hK 18 (by decide)) hG)), trivial⟩) rfl (fun hG wq hI => by exact run_int_neq rfl rfl rfl rfl) ?_
            refine w_or rfl (fun vs w hK => wants_none rfl) (fun vs w hK => (rho_in rfl (fv (hK 14 (by decide))))) (fun hB vs w hK => (rho_in rfl (fvg (hK 19 (by decide)) (gnot hB)))) ?_
            refine w_move (.inl rfl) (fun vs w hK => ⟨wants_none rfl, rho_in rfl (fv (hK 20 (by decide)))⟩) ?_
            refine w_valG [(10, _)] (_) (fun vs w hK => wantsF rfl (fv (hK 21 (by decide)))) (fun hG vs w hK => ⟨(rho_out rfl rfl), trivial⟩) rfl (fun hG wq hI => by simp only [execOp, Option.map_some, Option.map_none, lk_tmp, lk_const, lkT_cons, ↓reduceIte, Nat.reduceEqDiff]; go_simp; (first | done | rfl)) ?_
            refine w_valG [(107, _)] (_) (fun vs w hK => wantsF rfl (fv (hK 21 (by decide)))) (fun hG vs w hK => ⟨(rho_in rfl (fvg (hK 22 (by decide)) hG)), trivial⟩) rfl (fun hG wq hI => by exact run_load_cell rfl rfl rfl Try.underlying4 rfl (cell_ent (box_below HX6.out hI) rfl)) ?_
            refine w_valG [(2, _)] (_) (fun vs w hK => wantsF rfl (fv (hK 21 (by decide)))) (fun hG vs w hK => ⟨(rho_out rfl rfl), trivial⟩) rfl (fun hG wq hI => by simp only [execOp, Option.map_some, Option.map_none, lk_tmp, lk_const, lkT_cons, ↓reduceIte, Nat.reduceEqDiff]; go_simp; (first | done | rfl)) ?_
            refine w_valG [(109, _)] (_) (fun vs w hK => wantsF rfl (fv (hK 21 (by decide)))) (fun hG vs w hK => ⟨(rho_in rfl (fvg (hK 24 (by decide)) hG)), trivial⟩) rfl (fun hG wq hI => by exact run_load_cell rfl rfl rfl Try.underlying4 rfl (cell_ent (HG6.out.below hI).a (by rw [HXX.out]; rfl))) ?_
            refine w_valG [(108, _), (110, _)] (_) (fun vs w hK => wantsF rfl (fv (hK 21 (by decide)))) (fun hG vs w hK => ⟨(rho_in rfl (fvg (hK 23 (by decide)) hG)), (rho_in rfl (fvg (hK 25 (by decide)) hG)), trivial⟩) rfl (fun hG wq hI => by exact op_bool_neq rfl rfl Try.underlying4 rfl rfl) ?_
            refine w_or rfl (fun vs w hK => wants_none rfl) (fun vs w hK => (rho_in rfl (fv (hK 21 (by decide))))) (fun hB vs w hK => (rho_in rfl (fvg (hK 26 (by decide)) (gnot hB)))) ?_
            refine w_move (.inl rfl) (fun vs w hK => ⟨wants_none rfl, rho_in rfl (fv (hK 27 (by decide)))⟩) ?_
            refine w_valG [(10, _)] (_) (fun vs w hK => wantsF rfl (fv (hK 28 (by decide)))) (fun hG vs w hK => ⟨(rho_out rfl rfl), trivial⟩) rfl (fun hG wq hI => by simp only [execOp, Option.map_some, Option.map_none, lk_tmp, lk_const, lkT_cons, ↓reduceIte, Nat.reduceEqDiff]; go_simp; (first | done | rfl)) ?_
            refine w_valG [(114, _)] (_) (fun vs w hK => wantsF rfl (fv (hK 28 (by decide)))) (fun hG vs w hK => ⟨(rho_in rfl (fvg (hK 29 (by decide)) hG)), trivial⟩) rfl (fun hG wq hI => by exact run_load_cell rfl rfl rfl Try.underlying9 rfl (cell_ent (box_below HX6.out hI) rfl)) ?_
            refine w_valG [(115, _)] (_) (fun vs w hK => wantsF rfl (fv (hK 28 (by decide)))) (fun hG vs w hK => ⟨(rho_in rfl (fvg (hK 30 (by decide)) hG)), trivial⟩) rfl (fun hG wq hI => by exact op_str_nq rfl rfl rfl rfl) ?_
            refine w_or rfl (fun vs w hK => wants_none rfl) (fun vs w hK => (rho_in rfl (fv (hK 28 (by decide))))) (fun hB vs w hK => (rho_in rfl (fvg (hK 31 (by decide)) (gnot hB)))) ?_
            refine w_as (c' := .bool false) (by simp) ?_
            refine w_end rfl rfl rfl (fun vs wq hI hF => ?_)
            simp only [List.reverse_cons, List.reverse_nil, List.nil_append, List.cons_append, finL_val, finL_of, finL_any, finL_app, finL_new, finL_gr, finL_row, finL_box, finL_nil, Act.put, List.setIfInBounds_toArray, List.set_cons_zero, List.set_cons_succ, Nat.reduceAdd]
            have HG7 := Lib.hid (HG6.out.below hI)
            have HW7 := Lib.hid (below_then HW6.out HW6.out.size hI)
            clear hI hF HG6 HW6 HX6
            obtain ⟨w7, rfl⟩ : ∃ w7 : World, w7 = wq := ⟨_, rfl⟩
            go_upto_region 24 with fail
            refine draws_ (fun wq => Below w7.heap.size w7 wq) (fun _ => True) (by kernel_rfl) reg_4_24 rfl inv0 (fun _ _ _ _ => trivial) (below_drew (Below.refl _ _)) trivial ?_
            refine w_val [(2, _)] (_) (fun vs w hK => ⟨wants_none rfl, rho_out rfl rfl, trivial⟩) rfl (fun wq hI => by exact run_load_op rfl rfl (load_ent (HG7.out.below hI).a)) ?_
            refine w_val [(3, _)] (_) (fun vs w hK => ⟨wants_none rfl, rho_out rfl rfl, trivial⟩) rfl (fun wq hI => by exact run_load_op rfl rfl (load_ent (HG7.out.below hI).b)) ?_
            refine w_call [(118, _), (119, _)] _ _ (by decide) (fun vs w hK => ⟨wants_none rfl, rho_in rfl (fv (hK 0 (by decide))), rho_in rfl (fv (hK 1 (by decide))), trivial⟩) rfl rfl Try.func12 (by kernel_rfl) rfl (fun wq hI => Cxy.out wq) (margs rfl) ?_
            refine w_val [(120, _)] (_) (fun vs w hK => ⟨wants_none rfl, rho_in rfl (fv (hK 2 (by decide))), trivial⟩) rfl (fun wq hI => by exact run_int_eql rfl rfl rfl rfl) ?_
            refine w_move (.inl rfl) (fun vs w hK => ⟨wants_none rfl, rho_in rfl (fv (hK 3 (by decide)))⟩) ?_
            refine w_valG [(2, _)] (_) (fun vs w hK => wantsF rfl (fv (hK 4 (by decide)))) (fun hG vs w hK => ⟨(rho_out rfl rfl), trivial⟩) rfl (fun hG wq hI => by exact run_load_op rfl rfl (load_ent (HG7.out.below hI).a)) ?_
            refine w_valG [(3, _)] (_) (fun vs w hK => wantsF rfl (fv (hK 4 (by decide)))) (fun hG vs w hK => ⟨(rho_out rfl rfl), trivial⟩) rfl (fun hG wq hI => by exact run_load_op rfl rfl (load_ent (HG7.out.below hI).b)) ?_
            refine w_callG [(123, _), (124, _)] _ _ (by decide) (fun vs w hK => wantsF rfl (fv (hK 4 (by decide)))) (fun hG vs w hK => ⟨(rho_in rfl (fvg (hK 5 (by decide)) hG)), (rho_in rfl (fvg (hK 6 (by decide)) hG)), trivial⟩) rfl rfl Try.func12 (by kernel_rfl) rfl (fun hG wq hI => Cxy.out wq) (margs rfl) ?_
            refine w_valG [(125, _)] (_) (fun vs w hK => wantsF rfl (fv (hK 4 (by decide)))) (fun hG vs w hK => ⟨(rho_in rfl (fvg (hK 7 (by decide)) hG)), trivial⟩) rfl (fun hG wq hI => by exact run_int_lss rfl rfl rfl rfl) ?_
            refine w_moveG (.inl rfl) (fun vs w hK => wantsF rfl (fv (hK 4 (by decide)))) (fun hG vs w hK => (rho_out rfl rfl)) ?_
            refine w_valG [(3, _)] (_) (fun vs w hK => wantsF rfl (fv (hK 4 (by decide)))) (fun hG vs w hK => ⟨(rho_out rfl rfl), trivial⟩) rfl (fun hG wq hI => by exact run_load_op rfl rfl (load_ent (HG7.out.below hI).b)) ?_
            refine w_callG [(128, _)] _ _ (by decide) (fun vs w hK => wantsF rfl (fv (hK 4 (by decide)))) (fun hG vs w hK => ⟨(rho_in rfl (fvg (hK 10 (by decide)) hG)), trivial⟩) rfl rfl Try.func13 (by kernel_rfl) rfl (fun hG wq hI => CJ.out wq) (margs rfl) ?_
            refine w_valG [(127, _), (129, _)] (_) (fun vs w hK => wantsF rfl (fv (hK 4 (by decide)))) (fun hG vs w hK => ⟨(rho_in rfl (fvg (hK 9 (by decide)) hG)), (rho_in rfl (fvg (hK 11 (by decide)) hG)), trivial⟩) rfl (fun hG wq hI => by exact op_str_lss rfl rfl rfl rfl) ?_
            refine w_valG [(126, _), (130, _)] (_) (fun vs w hK => wantsF rfl (fv (hK 4 (by decide)))) (fun hG vs w hK => ⟨(rho_in rfl (fvg (hK 8 (by decide)) hG)), (rho_in rfl (fvg (hK 12 (by decide)) hG)), trivial⟩) rfl (fun hG wq hI => by exact op_bool_eql rfl rfl Try.underlying4 rfl rfl) ?_
            refine w_or rfl (fun vs w hK => wants_none rfl) (fun vs w hK => (rho_in rfl (fv (hK 4 (by decide))))) (fun hB vs w hK => (rho_in rfl (fvg (hK 13 (by decide)) (gnot hB)))) ?_
            refine w_as (c' := .bool true) (congrArg Value.bool HIL.out) ?_
            refine w_move (.inr rfl) (fun vs w hK => ⟨wants_none rfl, rho_in rfl (fv (hK 14 (by decide)))⟩) ?_
            refine w_end rfl rfl rfl (fun vs wq hI hF => ?_)
            simp only [List.reverse_cons, List.reverse_nil, List.nil_append, List.cons_append, finL_val, finL_of, finL_any, finL_app, finL_new, finL_gr, finL_row, finL_box, finL_nil, Act.put, List.setIfInBounds_toArray, List.set_cons_zero, List.set_cons_succ, Nat.reduceAdd]
            have HW8 := Lib.hid (below_then HW7.out HW7.out.size hI)
            clear hI hF
            go_wp2_with fail
            go_ret
            exact ⟨rfl, HW8.out⟩
  · have hu2 : IntKind.u64.wrap ((s : Int) * 2) = (N : Int) := by rw [show (s : Int) * 2 = ((2 * s : Nat) : Int) by omega, HWR.out _ (by omega)]; have := HNUM.out; simp at this; omega
    go_wp2_with fail
    go_loopw [7, 8] (fun v i wr => ∃ k : Nat, v = .string (strOfNums (esc (L.take k))) ∧ i = .int .i64 k ∧ k ≤ n ∧ Hid (Below w3.heap.size w3 wr)) (fun _ i _ => n - (intOf i).toNat)
    case atStart => exact ⟨0, rfl, rfl, Nat.zero_le _, Lib.hid (Below.refl _ _)⟩
    case round =>
      obtain ⟨k, rfl, rfl, hk, HB⟩ := hrel
      have hel := esc_length (L.take k)
      rw [List.length_take, HLL.out] at hel
      have cR : wr.cell? ⟨w.heap.size, 0, none⟩ = some (.string K) := cell_ent (HG3.out.below HB.out).a (by rw [HXX.out]; rfl)
      by_cases hlt : k < n
      · have t2 : decide ((k : Int) < (K.size : Int)) = true := decide_eq_true (by have := HN.out; omega)
        have hks : k < K.size := by rw [← HN.out]; exact hlt
        obtain ⟨c, hcc⟩ : ∃ c : Nat, (K[k]'hks).toNat = c := ⟨_, rfl⟩
        have hc1 : L.getD k 0 = (c : Int) := by rw [HL.out, ← at_str K k hks, hcc]
        have hsn : esc (L.take (k + 1)) = esc (L.take k) ++ (if (c : Int) = 0 then [0, 255] else [(c : Int)]) := by
          rw [List.take_succ_eq_append_getElem (by rw [HLL.out]; exact hlt), esc_snoc]
          rw [List.getD_eq_getElem?_getD, List.getElem?_eq_getElem (by rw [HLL.out]; exact hlt), Option.getD_some] at hc1
          rw [hc1]
        have hone : K.extract k (k + 1) = strOfNums [(c : Int)] := strOf_one K k hks c (by rw [← HL.out]; exact hc1)
        have HONE := Lib.hid hone
        have HSN := Lib.hid hsn
        clear hc1 hsn hone
        go_upto_region 13 with fail
        refine plain_ (fun wq => Below wr.heap.size wr wq) (fun _ => True) reg_4_13 rfl inv0 (fun _ _ _ _ => trivial) (Below.refl _ _) trivial ?_
        refine w_move (.inl rfl) (fun vs w hK => ⟨wants_none rfl, rho_out rfl rfl⟩) ?_
        refine w_val [(2, _)] _ (fun vs w hK => ⟨wants_none rfl, rho_out rfl rfl, trivial⟩) rfl (fun wq hI => by simp only [execOp, Option.map_some, Option.map_none, lk_tmp, lk_const, lkT_cons, ↓reduceIte, Nat.reduceEqDiff]; go_simp; (first | done | rfl)) ?_
        refine w_val [(48, _)] (_) (fun vs w hK => ⟨wants_none rfl, rho_in rfl (fv (hK 1 (by decide))), trivial⟩) rfl (fun wq hI => by exact run_load_cell rfl rfl rfl Try.underlying9 rfl (below_cell hI cR)) ?_
        refine w_move (.inl rfl) (fun vs w hK => ⟨wants_none rfl, rho_out rfl rfl⟩) ?_
        refine w_move (.inl rfl) (fun vs w hK => ⟨wants_none rfl, rho_out rfl rfl⟩) ?_
        refine w_val [(51, _)] (_) (fun vs w hK => ⟨wants_none rfl, rho_in rfl (fv (hK 4 (by decide))), trivial⟩) rfl (fun wq hI => by exact run_int_add rfl rfl rfl (c := ((k + 1 : Nat) : Int)) (by rw [i64_id (by omega) (by omega)]; omega)) ?_
        refine w_val [(49, _), (50, _), (52, _)] (_) (fun vs w hK => ⟨wants_none rfl, rho_in rfl (fv (hK 2 (by decide))), rho_in rfl (fv (hK 3 (by decide))), rho_in rfl (fv (hK 5 (by decide))), trivial⟩) rfl (fun wq hI => by exact op_cut_mid (a := k) (b := k + 1) rfl Try.underlying9 rfl rfl rfl rfl rfl (by omega) (by omega) HONE.out) ?_
        refine w_val [(47, _), (53, _)] (_) (fun vs w hK => ⟨wants_none rfl, rho_in rfl (fv (hK 0 (by decide))), rho_in rfl (fv (hK 6 (by decide))), trivial⟩) rfl (fun wq hI => by exact run_cat_op rfl rfl rfl (by rw [strOf_size, strOf_size]; simp; omega)) ?_
        refine w_as (c' := .string (strOfNums (esc (L.take k) ++ [(c : Int)]))) (congrArg Value.string (str_append _ _).symm) ?_
        refine w_move (.inr rfl) (fun vs w hK => ⟨wants_none rfl, rho_in rfl (fv (hK 7 (by decide)))⟩) ?_
        refine w_end rfl rfl rfl (fun vs wq hI hF => ?_)
        simp only [List.reverse_cons, List.reverse_nil, List.nil_append, List.cons_append, finL_val, finL_of, finL_any, finL_app, finL_new, finL_gr, finL_row, finL_box, finL_nil, Act.put, List.setIfInBounds_toArray, List.set_cons_zero, List.set_cons_succ, Nat.reduceAdd]
        have HB2 := Lib.hid (below_then HB.out HB.out.size hI)
        have cQ := below_cell hI cR
        clear hI hF cR
        obtain ⟨w4, rfl⟩ : ∃ w4 : World, w4 = wq := ⟨_, rfl⟩
        by_cases hz : c = 0
        · subst hz
          have t3 : (((0 : Nat) : Int) == 0) = true := rfl
          have HS2 := Lib.hid (HSN.out.trans (by rw [if_pos (show ((0 : Nat) : Int) = 0 from rfl)]))
          clear HSN HONE
          go_upto_region 15 with fail
          refine plain_ (fun wq => Below w4.heap.size w4 wq) (fun _ => True) reg_4_15 rfl inv0 (fun _ _ _ _ => trivial) (Below.refl _ _) trivial ?_
          refine w_move (.inl rfl) (fun vs w hK => ⟨wants_none rfl, rho_out rfl rfl⟩) ?_
          refine w_val [(60, _)] (_) (fun vs w hK => ⟨wants_none rfl, rho_in rfl (fv (hK 0 (by decide))), trivial⟩) rfl (fun wq hI => by exact run_cat_op rfl rfl rfl (by rw [strOf_size, List.length_append]; show _ + 1 ≤ _; simp; omega)) ?_
          refine w_as (c' := .string (strOfNums (esc (L.take (k + 1))))) (by rw [HS2.out, show ([0, 255] : List Int) = [((0 : Nat) : Int)] ++ [255] from rfl, ← List.append_assoc, str_append (esc (L.take k) ++ [((0 : Nat) : Int)]) [255]]; rfl) ?_
          refine w_move (.inr rfl) (fun vs w hK => ⟨wants_none rfl, rho_in rfl (fv (hK 1 (by decide)))⟩) ?_
          refine w_end rfl rfl rfl (fun vs wq hI hF => ?_)
          simp only [List.reverse_cons, List.reverse_nil, List.nil_append, List.cons_append, finL_val, finL_of, finL_any, finL_app, finL_new, finL_gr, finL_row, finL_box, finL_nil, Act.put, List.setIfInBounds_toArray, List.set_cons_zero, List.set_cons_succ, Nat.reduceAdd]
          have HB4 := Lib.hid (below_then HB2.out HB2.out.size hI)
          clear hI hF cQ
          go_wp2_with fail
          go_roundw
          case rel => exact ⟨k + 1, rfl, by go_num, by omega, HB4⟩
          case measure => simp [intOf]; omega
        · have t3 : ((c : Int) == 0) = false := by rw [beq_eq_false_iff_ne]; omega
          have hse : esc (L.take k) ++ [(c : Int)] = esc (L.take (k + 1)) := by rw [HSN.out, if_neg (by omega)]
          rw [hse]
          clear HSN HONE hse hz
          go_wp2_with fail
          go_roundw
          case rel => exact ⟨k + 1, rfl, by go_num, by omega, HB2⟩
          case measure => simp [intOf]; omega
      · obtain rfl : k = n := by omega
        have t2 : ¬ k < K.size := by have := HN.out; omega
        have htk : L.take k = L := List.take_of_length_le (by rw [HLL.out]; exact Nat.le_refl _)
        rw [htk] at hel ⊢
        clear hlt htk
        go_upto_region 16 with fail
        refine plain_ (fun wq => Below wr.heap.size wr wq) (fun _ => True) reg_4_16 rfl inv0 (fun _ _ _ _ => trivial) (Below.refl _ _) trivial ?_
        refine w_move (.inl rfl) (fun vs w hK => ⟨wants_none rfl, rho_out rfl rfl⟩) ?_
        refine w_val [(62, _)] (_) (fun vs w hK => ⟨wants_none rfl, rho_in rfl (fv (hK 0 (by decide))), trivial⟩) rfl (fun wq hI => by exact run_cat_op rfl rfl rfl (by rw [strOf_size]; show _ + 2 ≤ _; omega)) ?_
        refine w_as (c' := .string (strOfNums (esc L ++ [0, 1]))) (by rw [str_append]; rfl) ?_
        refine w_move (.inr rfl) (fun vs w hK => ⟨wants_none rfl, rho_in rfl (fv (hK 1 (by decide)))⟩) ?_
        refine w_end rfl rfl rfl (fun vs wq hI hF => ?_)
        simp only [List.reverse_cons, List.reverse_nil, List.nil_append, List.cons_append, finL_val, finL_of, finL_any, finL_app, finL_new, finL_gr, finL_row, finL_box, finL_nil, Act.put, List.setIfInBounds_toArray, List.set_cons_zero, List.set_cons_succ, Nat.reduceAdd]
        have HB2 := Lib.hid (below_then HB.out HB.out.size hI)
        clear hI hF cR HB
        obtain ⟨w4, rfl⟩ : ∃ w4 : World, w4 = wq := ⟨_, rfl⟩
        go_wp2_with fail
        go_loopw [7, 9] (fun v i wr => ∃ m : Nat, v = .string (strOfNums (esc L ++ [0, 1] ++ FL.take (8 - m))) ∧ i = .int .i64 ((m : Int) - 1) ∧ m ≤ 8 ∧ Hid (Below w3.heap.size w3 wr)) (fun _ i _ => (intOf i + 1).toNat)
        case atStart => exact ⟨8, by simp, rfl, Nat.le_refl _, HB2⟩
        case round =>
          obtain ⟨m, rfl, rfl, hm, HB⟩ := hrel
          cases m with
          | succ j =>
            have e1 : ((j + 1 : Nat) : Int) - 1 = (j : Int) := by omega
            rw [e1]
            have t2 : decide ((0 : Int) ≤ (j : Int)) = true := decide_eq_true (by omega)
            have hj8 : j < 8 := by omega
            have hdg : N / 256 ^ j % 256 < 256 := Nat.mod_lt _ (by omega)
            have hdv : N / 256 ^ j ≤ N := Nat.div_le_self _ _
            have hN := HN0.out
            have HFJ := Lib.hid (HFT.out j hj8)
            have hft := List.length_take_le (8 - (j + 1)) FL
            clear e1
            go_upto_region 20 with fail
            refine plain_ (fun wq => Below wr.heap.size wr wq) (fun _ => True) reg_4_20 rfl inv0 (fun _ _ _ _ => trivial) (Below.refl _ _) trivial ?_
            refine w_move (.inl rfl) (fun vs w hK => ⟨wants_none rfl, rho_out rfl rfl⟩) ?_
            refine w_move (.inl rfl) (fun vs w hK => ⟨wants_none rfl, rho_out rfl rfl⟩) ?_
            refine w_move (.inl rfl) (fun vs w hK => ⟨wants_none rfl, rho_out rfl rfl⟩) ?_
            refine w_val [(70, _)] (_) (fun vs w hK => ⟨wants_none rfl, rho_in rfl (fv (hK 2 (by decide))), trivial⟩) rfl (fun wq hI => by exact op_mul rfl rfl rfl (c := ((8 * j : Nat) : Int)) (by rw [i64_id (by omega) (by omega)]; omega)) ?_
            refine w_val [(71, _)] (_) (fun vs w hK => ⟨wants_none rfl, rho_in rfl (fv (hK 3 (by decide))), trivial⟩) rfl (fun wq hI => by exact op_conv_int rfl Try.underlying3 Try.underlying32 rfl (c := ((8 * j : Nat) : Int)) (wrap_nat _ (by omega))) ?_
            refine w_val [(69, _), (72, _)] (_) (fun vs w hK => ⟨wants_none rfl, rho_in rfl (fv (hK 1 (by decide))), rho_in rfl (fv (hK 4 (by decide))), trivial⟩) rfl (fun wq hI => by exact op_shr rfl rfl rfl (by omega) (shr_pow N j hj8)) ?_
            refine w_val [(73, _)] (_) (fun vs w hK => ⟨wants_none rfl, rho_in rfl (fv (hK 5 (by decide))), trivial⟩) rfl (fun wq hI => by exact op_rem rfl rfl rfl (by decide) (c := ((N / 256 ^ j % 256 : Nat) : Int)) (rem_nat _ 256)) ?_
            refine w_val [(74, _)] (_) (fun vs w hK => ⟨wants_none rfl, rho_in rfl (fv (hK 6 (by decide))), trivial⟩) rfl (fun wq hI => by exact run_int_sub rfl rfl rfl (c := ((255 - N / 256 ^ j % 256 : Nat) : Int)) (by rw [show (255 : Int) - ((N / 256 ^ j % 256 : Nat) : Int) = ((255 - N / 256 ^ j % 256 : Nat) : Int) by omega]; exact wrap_nat _ (by omega))) ?_
            refine w_val [(75, _)] (_) (fun vs w hK => ⟨wants_none rfl, rho_in rfl (fv (hK 7 (by decide))), trivial⟩) rfl (fun wq hI => by exact op_conv_int rfl Try.underlying22 Try.underlying5 rfl (c := ((255 - N / 256 ^ j % 256 : Nat) : Int)) (u8_nat _ (by omega))) ?_
            refine w_lit [(76, _)] .u8 [((255 - N / 256 ^ j % 256 : Nat) : Int)] _ tb (fun vs w hK => ⟨wants_none rfl, rho_in rfl (fv (hK 8 (by decide))), trivial⟩) rfl rfl rfl (by decide) (by decide) rfl ?_
            refine w_str (j := 9) Try.underlying9 Try.underlying5 tb rfl rfl (fun vs w hK => wants_none rfl) (fun vs w hK => hK 9 (by decide)) ?_
            refine w_val [(68, _), (78, _)] (_) (fun vs w hK => ⟨wants_none rfl, rho_in rfl (fv (hK 0 (by decide))), rho_in rfl (fv (hK 10 (by decide))), trivial⟩) rfl (fun wq hI => by exact run_cat_op rfl rfl rfl (by rw [strOf_size, strOf_size, List.length_append, List.length_append]; simp; omega)) ?_
            refine w_as (c' := .string (strOfNums (esc L ++ [0, 1] ++ FL.take (8 - j)))) (by rw [HFJ.out, ← List.append_assoc, str_append (esc L ++ [0, 1] ++ FL.take (8 - (j + 1))) [((255 - N / 256 ^ j % 256 : Nat) : Int)]]) ?_
            refine w_move (.inr rfl) (fun vs w hK => ⟨wants_none rfl, rho_in rfl (fv (hK 11 (by decide)))⟩) ?_
            refine w_end rfl rfl rfl (fun vs wq hI hF => ?_)
            simp only [List.reverse_cons, List.reverse_nil, List.nil_append, List.cons_append, finL_val, finL_of, finL_any, finL_app, finL_new, finL_gr, finL_row, finL_box, finL_nil, Act.put, List.setIfInBounds_toArray, List.set_cons_zero, List.set_cons_succ, Nat.reduceAdd]
            have HB4 := Lib.hid (below_then HB.out HB.out.size hI)
            clear hI hF HB HFJ
            obtain ⟨w5, rfl⟩ : ∃ w5 : World, w5 = wq := ⟨_, rfl⟩
            go_wp2_with fail
            go_roundw
            case rel => exact ⟨j, rfl, by go_num, by omega, HB4⟩
            case measure => simp [intOf] <;> omega
          | zero =>
            have t2 : decide ((0 : Int) ≤ ((0 : Nat) : Int) - 1) = false := by decide
            have hR : strOfNums (esc L ++ [0, 1] ++ FL.take (8 - 0)) = R := by rw [HIN2.out, List.take_of_length_le (by rw [HFLL.out]; exact Nat.le_refl _)]
            rw [hR]
            clear hR
            go_wp2_with fail
            refine (CO2.out _).mono ?_
            rintro e w5 ⟨rfl, hb5⟩
            have HG5 := Lib.hid (HG3.out.below (below_then HB.out HB.out.size hb5))
            have HW5 := Lib.hid (below_then HW3.out HW3.out.size (below_then HB.out HB.out.size hb5))
            clear hb5 CO2 HB
            go_upto_region 22 with fail
            have hx6 : (w5.alloc (.cells #[.string K, .int .u64 s, .bool true, .string ⟨#[]⟩] 24)).heap[w5.heap.size]? = some (.cells (Ent.mk K s true ⟨#[]⟩).cells.toArray 24) := heap_alloc_new w5 _
            have hb6 : Below w5.heap.size w5 (w5.alloc (.cells #[.string K, .int .u64 s, .bool true, .string ⟨#[]⟩] 24)) := below_alloc (Below.refl _ _) _
            have HG6 := Lib.hid (HG5.out.below hb6)
            have HW6 := Lib.hid (below_then HW5.out HW5.out.size hb6)
            have HX6 := Lib.hid hx6
            generalize w5.alloc (.cells #[.string K, .int .u64 s, .bool true, .string ⟨#[]⟩] 24) = w6 at HG6 HW6 HX6 ⊢
            clear hx6 hb6 HG5 HW5
            refine plain_ (fun wq => Below w6.heap.size w6 wq) (fun _ => True) reg_4_22 rfl inv0 (fun _ _ _ _ => trivial) (Below.refl _ _) trivial ?_
            refine w_move (.inl rfl) (fun vs w hK => ⟨wants_none rfl, rho_out rfl rfl⟩) ?_
            refine w_move (.inl rfl) (fun vs w hK => ⟨wants_none rfl, rho_out rfl rfl⟩) ?_
            refine w_val [(85, _), (86, _)] (_) (fun vs w hK => ⟨wants_none rfl, rho_in rfl (fv (hK 0 (by decide))), rho_in rfl (fv (hK 1 (by decide))), trivial⟩) rfl (fun wq hI => by exact op_str_nq rfl rfl rfl rfl) ?_
            refine w_move (.inl rfl) (fun vs w hK => ⟨wants_none rfl, rho_in rfl (fv (hK 2 (by decide)))⟩) ?_
            refine w_moveG (.inl rfl) (fun vs w hK => wantsF rfl (fv (hK 3 (by decide)))) (fun hG vs w hK => (rho_out rfl rfl)) ?_
            refine w_valG [(89, _)] (_) (fun vs w hK => wantsF rfl (fv (hK 3 (by decide)))) (fun hG vs w hK => ⟨(rho_in rfl (fvg (hK 4 (by decide)) hG)), trivial⟩) rfl (fun hG wq hI => by exact run_int_neq rfl rfl rfl rfl) ?_
            refine w_or rfl (fun vs w hK => wants_none rfl) (fun vs w hK => (rho_in rfl (fv (hK 3 (by decide))))) (fun hB vs w hK => (rho_in rfl (fvg (hK 5 (by decide)) (gnot hB)))) ?_
            refine w_move (.inl rfl) (fun vs w hK => ⟨wants_none rfl, rho_in rfl (fv (hK 6 (by decide)))⟩) ?_
            refine w_valG [(10, _)] (_) (fun vs w hK => wantsF rfl (fv (hK 7 (by decide)))) (fun hG vs w hK => ⟨(rho_out rfl rfl), trivial⟩) rfl (fun hG wq hI => by simp only [execOp, Option.map_some, Option.map_none, lk_tmp, lk_const, lkT_cons, ↓reduceIte, Nat.reduceEqDiff]; go_simp; (first | done | rfl)) ?_
            refine w_valG [(93, _)] (_) (fun vs w hK => wantsF rfl (fv (hK 7 (by decide)))) (fun hG vs w hK => ⟨(rho_in rfl (fvg (hK 8 (by decide)) hG)), trivial⟩) rfl (fun hG wq hI => by exact run_load_cell rfl rfl rfl Try.underlying9 rfl (cell_ent (box_below HX6.out hI) rfl)) ?_
            refine w_valG [(2, _)] (_) (fun vs w hK => wantsF rfl (fv (hK 7 (by decide)))) (fun hG vs w hK => ⟨(rho_out rfl rfl), trivial⟩) rfl (fun hG wq hI => by simp only [execOp, Option.map_some, Option.map_none, lk_tmp, lk_const, lkT_cons, ↓reduceIte, Nat.reduceEqDiff]; go_simp; (first | done | rfl)) ?_
            refine w_valG [(95, _)] (_) (fun vs w hK => wantsF rfl (fv (hK 7 (by decide)))) (fun hG vs w hK => ⟨(rho_in rfl (fvg (hK 10 (by decide)) hG)), trivial⟩) rfl (fun hG wq hI => by exact run_load_cell rfl rfl rfl Try.underlying9 rfl (cell_ent (HG6.out.below hI).a (by rw [HXX.out]; rfl))) ?_
            refine w_valG [(94, _), (96, _)] (_) (fun vs w hK => wantsF rfl (fv (hK 7 (by decide)))) (fun hG vs w hK => ⟨(rho_in rfl (fvg (hK 9 (by decide)) hG)), (rho_in rfl (fvg (hK 11 (by decide)) hG)), trivial⟩) rfl (fun hG wq hI => by exact op_str_nq rfl rfl rfl rfl) ?_
            refine w_or rfl (fun vs w hK => wants_none rfl) (fun vs w hK => (rho_in rfl (fv (hK 7 (by decide))))) (fun hB vs w hK => (rho_in rfl (fvg (hK 12 (by decide)) (gnot hB)))) ?_
            refine w_move (.inl rfl) (fun vs w hK => ⟨wants_none rfl, rho_in rfl (fv (hK 13 (by decide)))⟩) ?_
            refine w_valG [(10, _)] (_) (fun vs w hK => wantsF rfl (fv (hK 14 (by decide)))) (fun hG vs w hK => ⟨(rho_out rfl rfl), trivial⟩) rfl (fun hG wq hI => by simp only [execOp, Option.map_some, Option.map_none, lk_tmp, lk_const, lkT_cons, ↓reduceIte, Nat.reduceEqDiff]; go_simp; (first | done | rfl)) ?_
            refine w_valG [(100, _)] (_) (fun vs w hK => wantsF rfl (fv (hK 14 (by decide)))) (fun hG vs w hK => ⟨(rho_in rfl (fvg (hK 15 (by decide)) hG)), trivial⟩) rfl (fun hG wq hI => by exact run_load_cell rfl rfl rfl Try.underlying22 rfl (cell_ent (box_below HX6.out hI) rfl)) ?_
            refine w_valG [(2, _)] (_) (fun vs w hK => wantsF rfl (fv (hK 14 (by decide)))) (fun hG vs w hK => ⟨(rho_out rfl rfl), trivial⟩) rfl (fun hG wq hI => by simp only [execOp, Option.map_some, Option.map_none, lk_tmp, lk_const, lkT_cons, ↓reduceIte, Nat.reduceEqDiff]; go_simp; (first | done | rfl)) ?_
            refine w_valG [(102, _)] (_) (fun vs w hK => wantsF rfl (fv (hK 14 (by decide)))) (fun hG vs w hK => ⟨(rho_in rfl (fvg (hK 17 (by decide)) hG)), trivial⟩) rfl (fun hG wq hI => by exact run_load_cell rfl rfl rfl Try.underlying22 rfl (cell_ent (HG6.out.below hI).a (by rw [HXX.out]; rfl))) ?_
            refine w_valG [(101, _), (103, _)] (_) (fun vs w hK => wantsF rfl (fv (hK 14 (by decide)))) (fun hG vs w hK => ⟨(rho_in rfl (fvg (hK 16 (by decide)) hG)), (rho_in rfl (fvg (hK 18 (by decide)) hG)), trivial⟩) rfl (fun hG wq hI => by exact run_int_neq rfl rfl rfl rfl) ?_
            refine w_or rfl (fun vs w hK => wants_none rfl) (fun vs w hK => (rho_in rfl (fv (hK 14 (by decide))))) (fun hB vs w hK => (rho_in rfl (fvg (hK 19 (by decide)) (gnot hB)))) ?_
            refine w_move (.inl rfl) (fun vs w hK => ⟨wants_none rfl, rho_in rfl (fv (hK 20 (by decide)))⟩) ?_
            refine w_valG [(10, _)] (_) (fun vs w hK => wantsF rfl (fv (hK 21 (by decide)))) (fun hG vs w hK => ⟨(rho_out rfl rfl), trivial⟩) rfl (fun hG wq hI => by simp only [execOp, Option.map_some, Option.map_none, lk_tmp, lk_const, lkT_cons, ↓reduceIte, Nat.reduceEqDiff]; go_simp; (first | done | rfl)) ?_
            refine w_valG [(107, _)] (_) (fun vs w hK => wantsF rfl (fv (hK 21 (by decide)))) (fun hG vs w hK => ⟨(rho_in rfl (fvg (hK 22 (by decide)) hG)), trivial⟩) rfl (fun hG wq hI => by exact run_load_cell rfl rfl rfl Try.underlying4 rfl (cell_ent (box_below HX6.out hI) rfl)) ?_
            refine w_valG [(2, _)] (_) (fun vs w hK => wantsF rfl (fv (hK 21 (by decide)))) (fun hG vs w hK => ⟨(rho_out rfl rfl), trivial⟩) rfl (fun hG wq hI => by simp only [execOp, Option.map_some, Option.map_none, lk_tmp, lk_const, lkT_cons, ↓reduceIte, Nat.reduceEqDiff]; go_simp; (first | done | rfl)) ?_
            refine w_valG [(109, _)] (_) (fun vs w hK => wantsF rfl (fv (hK 21 (by decide)))) (fun hG vs w hK => ⟨(rho_in rfl (fvg (hK 24 (by decide)) hG)), trivial⟩) rfl (fun hG wq hI => by exact run_load_cell rfl rfl rfl Try.underlying4 rfl (cell_ent (HG6.out.below hI).a (by rw [HXX.out]; rfl))) ?_
            refine w_valG [(108, _), (110, _)] (_) (fun vs w hK => wantsF rfl (fv (hK 21 (by decide)))) (fun hG vs w hK => ⟨(rho_in rfl (fvg (hK 23 (by decide)) hG)), (rho_in rfl (fvg (hK 25 (by decide)) hG)), trivial⟩) rfl (fun hG wq hI => by exact op_bool_neq rfl rfl Try.underlying4 rfl rfl) ?_
            refine w_or rfl (fun vs w hK => wants_none rfl) (fun vs w hK => (rho_in rfl (fv (hK 21 (by decide))))) (fun hB vs w hK => (rho_in rfl (fvg (hK 26 (by decide)) (gnot hB)))) ?_
            refine w_move (.inl rfl) (fun vs w hK => ⟨wants_none rfl, rho_in rfl (fv (hK 27 (by decide)))⟩) ?_
            refine w_valG [(10, _)] (_) (fun vs w hK => wantsF rfl (fv (hK 28 (by decide)))) (fun hG vs w hK => ⟨(rho_out rfl rfl), trivial⟩) rfl (fun hG wq hI => by simp only [execOp, Option.map_some, Option.map_none, lk_tmp, lk_const, lkT_cons, ↓reduceIte, Nat.reduceEqDiff]; go_simp; (first | done | rfl)) ?_
            refine w_valG [(114, _)] (_) (fun vs w hK => wantsF rfl (fv (hK 28 (by decide)))) (fun hG vs w hK => ⟨(rho_in rfl (fvg (hK 29 (by decide)) hG)), trivial⟩) rfl (fun hG wq hI => by exact run_load_cell rfl rfl rfl Try.underlying9 rfl (cell_ent (box_below HX6.out hI) rfl)) ?_
            refine w_valG [(115, _)] (_) (fun vs w hK => wantsF rfl (fv (hK 28 (by decide)))) (fun hG vs w hK => ⟨(rho_in rfl (fvg (hK 30 (by decide)) hG)), trivial⟩) rfl (fun hG wq hI => by exact op_str_nq rfl rfl rfl rfl) ?_
            refine w_or rfl (fun vs w hK => wants_none rfl) (fun vs w hK => (rho_in rfl (fv (hK 28 (by decide))))) (fun hB vs w hK => (rho_in rfl (fvg (hK 31 (by decide)) (gnot hB)))) ?_
            refine w_as (c' := .bool false) (by simp) ?_
            refine w_end rfl rfl rfl (fun vs wq hI hF => ?_)
            simp only [List.reverse_cons, List.reverse_nil, List.nil_append, List.cons_append, finL_val, finL_of, finL_any, finL_app, finL_new, finL_gr, finL_row, finL_box, finL_nil, Act.put, List.setIfInBounds_toArray, List.set_cons_zero, List.set_cons_succ, Nat.reduceAdd]
            have HG7 := Lib.hid (HG6.out.below hI)
            have HW7 := Lib.hid (below_then HW6.out HW6.out.size hI)
            clear hI hF HG6 HW6 HX6
            obtain ⟨w7, rfl⟩ : ∃ w7 : World, w7 = wq := ⟨_, rfl⟩
            go_upto_region 24 with fail
            refine draws_ (fun wq => Below w7.heap.size w7 wq) (fun _ => True) (by kernel_rfl) reg_4_24 rfl inv0 (fun _ _ _ _ => trivial) (below_drew (Below.refl _ _)) trivial ?_
            refine w_val [(2, _)] (_) (fun vs w hK => ⟨wants_none rfl, rho_out rfl rfl, trivial⟩) rfl (fun wq hI => by exact run_load_op rfl rfl (load_ent (HG7.out.below hI).a)) ?_
            refine w_val [(3, _)] (_) (fun vs w hK => ⟨wants_none rfl, rho_out rfl rfl, trivial⟩) rfl (fun wq hI => by exact run_load_op rfl rfl (load_ent (HG7.out.below hI).b)) ?_
            refine w_call [(118, _), (119, _)] _ _ (by decide) (fun vs w hK => ⟨wants_none rfl, rho_in rfl (fv (hK 0 (by decide))), rho_in rfl (fv (hK 1 (by decide))), trivial⟩) rfl rfl Try.func12 (by kernel_rfl) rfl (fun wq hI => Cxy.out wq) (margs rfl) ?_
            refine w_val [(120, _)] (_) (fun vs w hK => ⟨wants_none rfl, rho_in rfl (fv (hK 2 (by decide))), trivial⟩) rfl (fun wq hI => by exact run_int_eql rfl rfl rfl rfl) ?_
            refine w_move (.inl rfl) (fun vs w hK => ⟨wants_none rfl, rho_in rfl (fv (hK 3 (by decide)))⟩) ?_
            refine w_valG [(2, _)] (_) (fun vs w hK => wantsF rfl (fv (hK 4 (by decide)))) (fun hG vs w hK => ⟨(rho_out rfl rfl), trivial⟩) rfl (fun hG wq hI => by exact run_load_op rfl rfl (load_ent (HG7.out.below hI).a)) ?_
            refine w_valG [(3, _)] (_) (fun vs w hK => wantsF rfl (fv (hK 4 (by decide)))) (fun hG vs w hK => ⟨(rho_out rfl rfl), trivial⟩) rfl (fun hG wq hI => by exact run_load_op rfl rfl (load_ent (HG7.out.below hI).b)) ?_
            refine w_callG [(123, _), (124, _)] _ _ (by decide) (fun vs w hK => wantsF rfl (fv (hK 4 (by decide)))) (fun hG vs w hK => ⟨(rho_in rfl (fvg (hK 5 (by decide)) hG)), (rho_in rfl (fvg (hK 6 (by decide)) hG)), trivial⟩) rfl rfl Try.func12 (by kernel_rfl) rfl (fun hG wq hI => Cxy.out wq) (margs rfl) ?_
            refine w_valG [(125, _)] (_) (fun vs w hK => wantsF rfl (fv (hK 4 (by decide)))) (fun hG vs w hK => ⟨(rho_in rfl (fvg (hK 7 (by decide)) hG)), trivial⟩) rfl (fun hG wq hI => by exact run_int_lss rfl rfl rfl rfl) ?_
            refine w_moveG (.inl rfl) (fun vs w hK => wantsF rfl (fv (hK 4 (by decide)))) (fun hG vs w hK => (rho_out rfl rfl)) ?_
            refine w_valG [(3, _)] (_) (fun vs w hK => wantsF rfl (fv (hK 4 (by decide)))) (fun hG vs w hK => ⟨(rho_out rfl rfl), trivial⟩) rfl (fun hG wq hI => by exact run_load_op rfl rfl (load_ent (HG7.out.below hI).b)) ?_
            refine w_callG [(128, _)] _ _ (by decide) (fun vs w hK => wantsF rfl (fv (hK 4 (by decide)))) (fun hG vs w hK => ⟨(rho_in rfl (fvg (hK 10 (by decide)) hG)), trivial⟩) rfl rfl Try.func13 (by kernel_rfl) rfl (fun hG wq hI => CJ.out wq) (margs rfl) ?_
            refine w_valG [(127, _), (129, _)] (_) (fun vs w hK => wantsF rfl (fv (hK 4 (by decide)))) (fun hG vs w hK => ⟨(rho_in rfl (fvg (hK 9 (by decide)) hG)), (rho_in rfl (fvg (hK 11 (by decide)) hG)), trivial⟩) rfl (fun hG wq hI => by exact op_str_lss rfl rfl rfl rfl) ?_
            refine w_valG [(126, _), (130, _)] (_) (fun vs w hK => wantsF rfl (fv (hK 4 (by decide)))) (fun hG vs w hK => ⟨(rho_in rfl (fvg (hK 8 (by decide)) hG)), (rho_in rfl (fvg (hK 12 (by decide)) hG)), trivial⟩) rfl (fun hG wq hI => by exact op_bool_eql rfl rfl Try.underlying4 rfl rfl) ?_
            refine w_or rfl (fun vs w hK => wants_none rfl) (fun vs w hK => (rho_in rfl (fv (hK 4 (by decide))))) (fun hB vs w hK => (rho_in rfl (fvg (hK 13 (by decide)) (gnot hB)))) ?_
            refine w_as (c' := .bool true) (congrArg Value.bool HIL.out) ?_
            refine w_move (.inr rfl) (fun vs w hK => ⟨wants_none rfl, rho_in rfl (fv (hK 14 (by decide)))⟩) ?_
            refine w_end rfl rfl rfl (fun vs wq hI hF => ?_)
            simp only [List.reverse_cons, List.reverse_nil, List.nil_append, List.cons_append, finL_val, finL_of, finL_any, finL_app, finL_new, finL_gr, finL_row, finL_box, finL_nil, Act.put, List.setIfInBounds_toArray, List.set_cons_zero, List.set_cons_succ, Nat.reduceAdd]
            have HW8 := Lib.hid (below_then HW7.out HW7.out.size hI)
            clear hI hF
            go_wp2_with fail
            go_ret
            exact ⟨rfl, HW8.out⟩
end Go.Proofs.Ytgnicgcdhldmmaa.Key

