/- slices.Insert of one element. -/
import Derived.Test.YtnkeijdpjcclcaaIns
namespace Go.Proofs.Ytnkeijdpjcclcaa.Mem
set_option linter.unusedVariables false
set_option linter.unusedSimpArgs false
open Go.Proofs.Ytnkeijdpjcclcaa.Kit Go.RowKit Go.Proofs.YtnkeijdpjcclcaaW.PrintWords Go.Proofs.YtnkeijdpjcclcaaW.PrintLast Go.Proofs.YtnkeijdpjcclcaaW.PrintMore
theorem lay_room {V : Type} (cur A D X : List V) (a d kk : Nat) (hA : A.length = a) (hD : D.length = d) (hX : X.length = kk) (hc : cur.take (a + d) = A ++ D) (hL : a + d + kk ≤ cur.length) (C1 C2 : List V) (h1 : C1 = cur.take (a + kk) ++ D ++ cur.drop (a + kk + D.length)) (h2 : C2 = C1.take a ++ X ++ C1.drop (a + X.length)) :
    C2 = A ++ X ++ D ++ cur.drop (a + kk + d) ∧ C1.length = cur.length ∧ C2.length = cur.length := by
  have e1 : C1.length = cur.length := by
    rw [h1]
    simp only [List.length_append, List.length_take, List.length_drop]
    omega
  have e2 : C1.take a = A := by
    rw [h1, List.append_assoc, List.take_append_of_le_length (by rw [List.length_take]; omega), List.take_take, Nat.min_eq_left (by omega)]
    have h := congrArg (List.take a) hc
    rw [List.take_take, Nat.min_eq_left (by omega)] at h
    rw [h, ← hA, List.take_left]
  have e3 : C1.drop (a + kk) = D ++ cur.drop (a + kk + d) := by
    rw [h1, List.append_assoc, List.drop_append_of_le_length (by rw [List.length_take]; omega), List.drop_eq_nil_of_le (by rw [List.length_take]; omega), List.nil_append, hD]
  have e4 : C2 = A ++ X ++ D ++ cur.drop (a + kk + d) := by
    rw [h2, hX, e2, e3]
    simp only [List.append_assoc]
  refine ⟨e4, e1, ?_⟩
  rw [e4]
  simp only [List.length_append, List.length_drop]
  omega
theorem lay_grow {V : Type} (A rest X D : List V) (a d kk r : Nat) (hA : A.length = a) (hD : D.length = d) (hX : X.length = kk) (hr : rest.length = r) (hL : kk + d ≤ r) (D1 D2 : List V) (h1 : D1 = (A ++ rest).take a ++ X ++ (A ++ rest).drop (a + X.length)) (h2 : D2 = D1.take (a + kk) ++ D ++ D1.drop (a + kk + D.length)) :
    D2 = A ++ X ++ D ++ rest.drop (kk + d) ∧ D1.length = a + r ∧ D2.length = a + r := by
  have e0 : D1 = A ++ X ++ rest.drop kk := by
    rw [h1, ← hA, List.take_left, hX, ← List.drop_drop, List.drop_left]
  have e1 : D2 = A ++ X ++ D ++ rest.drop (kk + d) := by
    have t1 : (A ++ X ++ rest.drop kk).take (a + kk) = A ++ X := by
      rw [show a + kk = (A ++ X).length by simp [hA, hX], List.take_left]
    have t2 : (A ++ X ++ rest.drop kk).drop (a + kk + d) = rest.drop (kk + d) := by
      rw [← List.drop_drop, show a + kk = (A ++ X).length by simp [hA, hX], List.drop_left, List.drop_drop]
    rw [h2, e0, hD, t1, t2]
  refine ⟨e1, ?_, ?_⟩
  · rw [e0]
    simp only [List.length_append, List.length_drop]
    omega
  · rw [e1]
    simp only [List.length_append, List.length_drop]
    omega
theorem nmin_of {a b r : Nat} (h : r = a ∧ a ≤ b ∨ r = b ∧ b ≤ a) : Nat.min a b = r := by
  show min a b = r
  omega
theorem src_cell {W : World} {g a d : Nat} {e : TypeId} {cur A D : List Value} (hg : W.heap[g]? = some (.cells cur.toArray e (0, 0))) (hA : A.length = a) (hc : cur.take (a + d) = A ++ D) : ∀ (j : Nat) (v : Value), D[j]? = some v → W.cell? ((⟨g, a, none⟩ : Addr).add j) = some v := fun j v hv => by
  rw [Addr.add_mid]
  simp only [World.cell?, hg]
  have h : (cur.take (a + d))[a + j]? = some v := by
    rw [hc, List.getElem?_append_right (by omega), hA, Nat.add_sub_cancel_left]
    exact hv
  rw [List.getElem?_take] at h
  split at h
  · simpa using h
  · cases h
theorem blk_cells {W : World} {g : Nat} {e : TypeId} {cs : List Value} (hg : W.heap[g]? = some (.cells cs.toArray e (0, 0))) : ∀ (j : Nat) (v : Value), cs[j]? = some v → W.cell? ((⟨g, 0, none⟩ : Addr).add j) = some v := fun j v hv => by
  rw [Go.Proofs.YtnkeijdpjcclcaaW.PrintWords.add_plain]
  simp only [World.cell?, hg]
  simpa using hv
--BEGIN
def encI (x : Int) : List Value := [.int .i64 x]
def kI : Nat := 1
theorem encI_len (x : Int) : (encI x).length = kI := rfl
theorem encI_one (x : Int) : ∀ u ∈ encI x, u.oneCell' = true := by intro u hu; rw [List.mem_singleton.1 hu]; rfl
theorem etI : EType Try.prog 34 3 kI 8 (.int .i64 0) := ⟨Try.underlying34, by kernel_rfl, rfl, by decide⟩
theorem stI : StTy Try.prog 34 3 kI := etype_st etI
theorem reg_56_1 : RegOk (opsOf Try.f56 1) [[], [], [0, 1]] [] [some 10, some 11, some 12] := regOk (by kernel_rfl)
theorem reg_56_8 : RegOk (opsOf Try.f56 8) [[], [], [0, 1], [], [3], [0, 1, 2, 3, 4]] [] [some 26, some 27, some 28, some 29, some 30, some 31] := regOk (by kernel_rfl)
theorem reg_56_9 : RegOk (opsOf Try.f56 9) [[], [], [0, 1], [], [], [3, 4], [], [3, 4, 5, 6], [0, 1, 2, 3, 4, 5, 6, 7], [0, 1, 2, 3, 4, 5, 6, 7, 8]] [] [some 32, some 33, some 34, some 35, some 36, some 37, some 38, some 39, some 40, some 9] := regOk (by kernel_rfl)
theorem reg_56_10 : RegOk (opsOf Try.f56 10) [[], [], [0, 1], [], [0, 1, 2, 3]] [4] [some 41, some 42, some 43, some 44, some 45] := regOk (by kernel_rfl)
theorem reg_56_11 : RegOk (opsOf Try.f56 11) [[], [], [], [1, 2], [0, 1, 2, 3], [], [], [5, 6], [0, 1, 2, 3, 4, 5, 6, 7]] [8] [some 46, some 47, some 48, some 49, some 50, some 51, some 52, some 53, some 54] := regOk (by kernel_rfl)
theorem reg_56_13 : RegOk (opsOf Try.f56 13) [[], [], [], [1, 2], [0, 1, 2, 3], [0, 1, 2, 3, 4]] [] [some 56, some 57, some 58, some 59, some 60, some 0] := regOk (by kernel_rfl)
theorem reg_56_14 : RegOk (opsOf Try.f56 14) [[], [], [], [], [2, 3], [1, 2, 3, 4], [0, 1, 2, 3, 4, 5], [0, 1, 2, 3, 4, 5, 6]] [] [some 61, some 62, some 63, some 64, some 65, some 66, some 67, some 68] := regOk (by kernel_rfl)
theorem reg_56_15 : RegOk (opsOf Try.f56 15) [[], [], [], [1, 2], [0, 1, 2, 3], [], [], [5, 6], [0, 1, 2, 3, 4, 5, 6, 7]] [8] [some 69, some 70, some 71, some 72, some 73, some 74, some 75, some 76, some 77] := regOk (by kernel_rfl)
theorem reg_56_16 : RegOk (opsOf Try.f56 16) [[], [], [0, 1], [], [0, 1, 2, 3]] [4] [some 78, some 79, some 80, some 81, some 82] := regOk (by kernel_rfl)
set_option maxRecDepth 20000 in
set_option maxHeartbeats 3200000 in
theorem insI_any (v : Value) (xs : List Int) (i : Nat) (x : Int) (vb : Nat) (w : World) {B : Nat} (ho : OwnK encI kI 3 w B v xs) (hv : w.heap[vb]? = some (.cells (encI x).toArray 3 (0, 0))) (hne : v.ownBlock ≠ some vb) (hi : i ≤ xs.length) (hB : B ≤ w.heap.size) (hx : xs.length ≤ 1000000) :
    Calls Try.prog 56 #[v, .int .i64 (i : Nat), .slice (some ⟨vb, 0, none⟩) 1 1] w fun e w' => ∃ v1, e = .returned v1 ∧ OwnK encI kI 3 w' B v1 (xs.take i ++ [x] ++ xs.drop i) ∧ Fr w w' v v1 := by
  have HV := Lib.hid hv
  have HO := Lib.hid ho
  have hS1 : Sts encI kI w (some ⟨vb, 0, none⟩) 1 [x] := sts_one encI_len rfl hv
  rcases Nat.lt_or_ge i xs.length with hlt | hge
  · obtain ⟨g, cap, cur, rfl, hBg, hg, hnc, hcm, hcl, hct⟩ := own_block ho (by omega)
    have hgv : g ≠ vb := fun e => hne (by rw [e]; rfl)
    have hA : ((xs.take i).flatMap encI).length = i * kI := by rw [flat_length encI_len, List.length_take, Nat.min_eq_left hi]
    have hD : ((xs.drop i).flatMap encI).length = (xs.length - i) * kI := by rw [flat_length encI_len, List.length_drop]
    have hX : (encI x).length = kI := encI_len x
    have had : i * kI + (xs.length - i) * kI = xs.length * kI := by rw [← Nat.add_mul]; congr 1; omega
    have hc : cur.take (i * kI + (xs.length - i) * kI) = (xs.take i).flatMap encI ++ (xs.drop i).flatMap encI := by rw [had, hct, ← List.flatMap_append, List.take_append_drop]
    have hone : ∀ u ∈ (xs.drop i).flatMap encI, u.oneCell' = true := fun u hu => by
      obtain ⟨y, _, hy⟩ := List.mem_flatMap.1 hu
      exact encI_one y u hy
    have hfin : (xs.take i ++ [x] ++ xs.drop i).flatMap encI = (xs.take i).flatMap encI ++ encI x ++ (xs.drop i).flatMap encI := by simp [List.flatMap_append]
    have hfl : (xs.take i ++ [x] ++ xs.drop i).length = xs.length + 1 := by simp only [List.length_append, List.length_take, List.length_drop, List.length_singleton]; omega
    have hsm : (i + 1) * kI = i * kI + kI := Nat.succ_mul i kI
    have tne : ((i : Int) == (xs.length : Int)) = false := by simp only [beq_eq_false_iff_ne, ne_eq]; omega
    have HA := Lib.hid hA
    have HD := Lib.hid hD
    have HC := Lib.hid hc
    have HONE := Lib.hid hone
    have HFIN := Lib.hid hfin
    have HFL := Lib.hid hfl
    have HSM := Lib.hid hsm
    have HG := Lib.hid hg
    have HCL := Lib.hid hcl
    have HAD := Lib.hid had
    have hpk : 0 < kI := by decide
    clear hA hD hc hone hfin hfl hsm hg hcl had hct ho HO hS1 hv hne hX
    generalize hys : xs.take i ++ [x] ++ xs.drop i = ys at HFIN HFL ⊢
    have hys2 := Lib.hid hys
    clear hys
    generalize (xs.take i).flatMap encI = A at HA HC HFIN
    generalize (xs.drop i).flatMap encI = D at HD HC HFIN HONE
    generalize xs.length = n at *
    have HCUT1 := Lib.hid (cut_lo stI g n cap i (by omega) (by omega) .i64 (i : Int) rfl)
    rcases Nat.lt_or_ge n cap with hroom | hfull
    · have HCUT0 := Lib.hid (cut_hi stI (some ⟨g, 0, none⟩) n cap (n + 1) (by omega) .i64 ((n + 1 : Nat) : Int) rfl)
      have HCUT2 := Lib.hid (cut_lo stI g (n + 1) cap (i + 1) (by omega) (by omega) .i64 ((i + 1 : Nat) : Int) rfl)
      have HCUT3 := Lib.hid (cut_lo stI g (n + 1) cap i (by omega) (by omega) .i64 (i : Int) rfl)
      have hL : i * kI + (n - i) * kI + kI ≤ cur.length := by
        rw [HAD.out, HCL.out, ← Nat.succ_mul]
        exact Nat.mul_le_mul_right _ (by omega)
      obtain ⟨C1, hC1⟩ : ∃ C1, C1 = cur.take (i * kI + kI) ++ D ++ cur.drop (i * kI + kI + D.length) := ⟨_, rfl⟩
      obtain ⟨C2, hC2⟩ : ∃ C2, C2 = C1.take (i * kI) ++ encI x ++ C1.drop (i * kI + (encI x).length) := ⟨_, rfl⟩
      have HLAY := Lib.hid (lay_room cur A D (encI x) (i * kI) ((n - i) * kI) kI HA.out HD.out (encI_len x) HC.out hL C1 C2 hC1 hC2)
      have HC1 := Lib.hid hC1
      have HC2 := Lib.hid hC2
      have HLL := Lib.hid hL
      clear hC1 hC2 hL
      go_enter Try.func56, Try.ntmps56
      go_upto_region 1 with fail
      refine plain_ (fun wq => Below w.heap.size w wq) (fun _ => True) reg_56_1 rfl inv0 (fun _ _ _ _ => trivial) (Below.refl _ _) trivial ?_
      refine w_move (.inl rfl) (fun vs w hK => ⟨wants_none rfl, rho_out rfl rfl⟩) ?_
      refine w_move (.inl rfl) (fun vs w hK => ⟨wants_none rfl, rho_out rfl rfl⟩) ?_
      refine w_val [(10, _), (11, _)] (_) (fun vs w hK => ⟨wants_none rfl, rho_in rfl (fv (hK 0 (memE rfl))), rho_in rfl (fv (hK 1 (memE rfl))), trivial⟩) rfl (fun wq hI => by exact run_slice_op rfl rfl (HCUT1.out wq)) ?_
      refine w_end rfl rfl rfl (fun vs wq hI hF => ?_)
      simp only [List.reverse_cons, List.reverse_nil, List.nil_append, List.cons_append, finL_val, finL_of, finL_any, finL_app, finL_new, finL_gr, finL_row, finL_box, finL_nil, Act.put, List.setIfInBounds_toArray, List.set_cons_zero, List.set_cons_succ, Nat.reduceAdd]
      have HW1 := Lib.hid hI
      clear hI hF HCUT1
      obtain ⟨w1, rfl⟩ : ∃ w1 : World, w1 = wq := ⟨_, rfl⟩
      go_upto_region 8 with fail
      refine plain_ (fun wq => Below w1.heap.size w1 wq) (fun _ => True) reg_56_8 rfl inv0 (fun _ _ _ _ => trivial) (Below.refl _ _) trivial ?_
      refine w_move (.inl rfl) (fun vs w hK => ⟨wants_none rfl, rho_out rfl rfl⟩) ?_
      refine w_move (.inl rfl) (fun vs w hK => ⟨wants_none rfl, rho_out rfl rfl⟩) ?_
      refine w_val [(26, _), (27, _)] (_) (fun vs w hK => ⟨wants_none rfl, rho_in rfl (fv (hK 0 (memE rfl))), rho_in rfl (fv (hK 1 (memE rfl))), trivial⟩) rfl (fun wq hI => by exact run_int_add (c := ((n + 1 : Nat) : Int)) rfl rfl rfl (by rw [i64_id (by omega) (by omega)]; omega)) ?_
      refine w_move (.inl rfl) (fun vs w hK => ⟨wants_none rfl, rho_out rfl rfl⟩) ?_
      refine w_val [(29, _)] _ (fun vs w hK => ⟨wants_none rfl, rho_in rfl (fv (hK 3 (memE rfl))), trivial⟩) rfl (fun wq hI => by simp only [execOp, Option.map_some, Option.map_none, lk_tmp, lk_const, lkT_cons, ↓reduceIte, Nat.reduceEqDiff]; go_simp; (first | done | rfl)) ?_
      refine w_val [(28, _), (30, _)] (_) (fun vs w hK => ⟨wants_none rfl, rho_in rfl (fv (hK 2 (memE rfl))), rho_in rfl (fv (hK 4 (memE rfl))), trivial⟩) rfl (fun wq hI => by exact run_int_gtr (r := false) rfl rfl rfl (decide_eq_false (by omega))) ?_
      refine w_end rfl rfl rfl (fun vs wq hI hF => ?_)
      simp only [List.reverse_cons, List.reverse_nil, List.nil_append, List.cons_append, finL_val, finL_of, finL_any, finL_app, finL_new, finL_gr, finL_row, finL_box, finL_nil, Act.put, List.setIfInBounds_toArray, List.set_cons_zero, List.set_cons_succ, Nat.reduceAdd]
      have HW2 := Lib.hid (below_then HW1.out HW1.out.size hI)
      clear hI hF HW1
      obtain ⟨w2, rfl⟩ : ∃ w2 : World, w2 = wq := ⟨_, rfl⟩
      have HG2 := Lib.hid (box_stays HG.out HW2.out)
      have HV2 := Lib.hid (box_stays HV.out HW2.out)
      have hcp : cur.length ≠ 0 := by
        rw [HCL.out]
        exact Nat.ne_of_gt (Nat.mul_pos (by omega) hpk)
      go_upto_region 13 with fail
      refine plain_ (fun wq => Below w2.heap.size w2 wq) (fun _ => True) reg_56_13 rfl inv0 (fun _ _ _ _ => trivial) (Below.refl _ _) trivial ?_
      refine w_move (.inl rfl) (fun vs w hK => ⟨wants_none rfl, rho_out rfl rfl⟩) ?_
      refine w_move (.inl rfl) (fun vs w hK => ⟨wants_none rfl, rho_out rfl rfl⟩) ?_
      refine w_move (.inl rfl) (fun vs w hK => ⟨wants_none rfl, rho_out rfl rfl⟩) ?_
      refine w_val [(57, _), (58, _)] (_) (fun vs w hK => ⟨wants_none rfl, rho_in rfl (fv (hK 1 (memE rfl))), rho_in rfl (fv (hK 2 (memE rfl))), trivial⟩) rfl (fun wq hI => by exact run_int_add (c := ((n + 1 : Nat) : Int)) rfl rfl rfl (by rw [i64_id (by omega) (by omega)]; omega)) ?_
      refine w_val [(56, _), (59, _)] (_) (fun vs w hK => ⟨wants_none rfl, rho_in rfl (fv (hK 0 (memE rfl))), rho_in rfl (fv (hK 3 (memE rfl))), trivial⟩) rfl (fun wq hI => by exact run_slice_op rfl rfl (HCUT0.out wq)) ?_
      refine w_move (.inr rfl) (fun vs w hK => ⟨wants_none rfl, rho_in rfl (fv (hK 4 (memE rfl)))⟩) ?_
      refine w_end rfl rfl rfl (fun vs wq hI hF => ?_)
      simp only [List.reverse_cons, List.reverse_nil, List.nil_append, List.cons_append, finL_val, finL_of, finL_any, finL_app, finL_new, finL_gr, finL_row, finL_box, finL_nil, Act.put, List.setIfInBounds_toArray, List.set_cons_zero, List.set_cons_succ, Nat.reduceAdd]
      have HW3 := Lib.hid hI
      clear hI hF HCUT0
      obtain ⟨w3, rfl⟩ : ∃ w3 : World, w3 = wq := ⟨_, rfl⟩
      go_upto_region 14 with fail
      refine plain_ (fun wq => Below w3.heap.size w3 wq) (fun _ => True) reg_56_14 rfl inv0 (fun _ _ _ _ => trivial) (Below.refl _ _) trivial ?_
      refine w_move (.inl rfl) (fun vs w hK => ⟨wants_none rfl, rho_out rfl rfl⟩) ?_
      refine w_move (.inl rfl) (fun vs w hK => ⟨wants_none rfl, rho_out rfl rfl⟩) ?_
      refine w_move (.inl rfl) (fun vs w hK => ⟨wants_none rfl, rho_out rfl rfl⟩) ?_
      refine w_move (.inl rfl) (fun vs w hK => ⟨wants_none rfl, rho_out rfl rfl⟩) ?_
      refine w_val [(63, _), (64, _)] (_) (fun vs w hK => ⟨wants_none rfl, rho_in rfl (fv (hK 2 (memE rfl))), rho_in rfl (fv (hK 3 (memE rfl))), trivial⟩) rfl (fun wq hI => by exact run_int_add (c := ((i + 1 : Nat) : Int)) rfl rfl rfl (by rw [i64_id (by omega) (by omega)]; omega)) ?_
      refine w_val [(62, _), (65, _)] (_) (fun vs w hK => ⟨wants_none rfl, rho_in rfl (fv (hK 1 (memE rfl))), rho_in rfl (fv (hK 4 (memE rfl))), trivial⟩) rfl (fun wq hI => by exact run_slice_op rfl rfl (HCUT2.out wq)) ?_
      refine w_val [(61, _), (66, _)] (.bool false) (fun vs w hK => ⟨wants_none rfl, rho_in rfl (fv (hK 0 (memE rfl))), rho_in rfl (fv (hK 5 (memE rfl))), trivial⟩) rfl (fun wq hI => by exact op_overlaps (tR := 4) stI rfl Try.func68 (by kernel_rfl) (by kernel_rfl) (by kernel_rfl) (by kernel_rfl) (margs rfl) (Ne.symm hgv) (box_stays HV2.out (below_then HW3.out HW3.out.size hI)) (box_stays HG2.out (below_then HW3.out HW3.out.size hI)) hcp) ?_
      refine w_val [(67, _)] (.bool true) (fun vs w hK => ⟨wants_none rfl, rho_in rfl (fv (hK 6 (memE rfl))), trivial⟩) rfl (fun wq hI => by exact op_not rfl rfl rfl) ?_
      refine w_end rfl rfl rfl (fun vs wq hI hF => ?_)
      simp only [List.reverse_cons, List.reverse_nil, List.nil_append, List.cons_append, finL_val, finL_of, finL_any, finL_app, finL_new, finL_gr, finL_row, finL_box, finL_nil, Act.put, List.setIfInBounds_toArray, List.set_cons_zero, List.set_cons_succ, Nat.reduceAdd]
      have HW4 := Lib.hid (below_then HW3.out HW3.out.size hI)
      clear hI hF HW3
      obtain ⟨w4, rfl⟩ : ∃ w4 : World, w4 = wq := ⟨_, rfl⟩
      have HG4 := Lib.hid (box_stays HG2.out HW4.out)
      have HV4 := Lib.hid (box_stays HV2.out HW4.out)
      have HR4 : Hid (w.grownBy w4 (some g)) := Lib.hid (grown_then (grown_below HW2.out) HW4.out)
      clear HG2 HV2 HW2 HW4
      go_upto_region 15 with fail
      refine draws_ (fun W => w.grownBy W (some g) ∧ W.heap[vb]? = some (.cells (encI x).toArray 3 (0, 0))) (fun W => W.heap[g]? = some (.cells cur.toArray 3 (0, 0))) (by kernel_rfl) reg_56_15 rfl (fun _ _ h k => ⟨grown_then h.1 k, box_stays h.2 k⟩) (fun _ _ h k => box_stays h k) ⟨grown_then HR4.out (below_drew (Below.refl _ _)), HV4.out⟩ HG4.out ?_
      refine w_move (.inl rfl) (fun vs w hK => ⟨wants_none rfl, rho_out rfl rfl⟩) ?_
      refine w_move (.inl rfl) (fun vs w hK => ⟨wants_none rfl, rho_out rfl rfl⟩) ?_
      refine w_move (.inl rfl) (fun vs w hK => ⟨wants_none rfl, rho_out rfl rfl⟩) ?_
      refine w_val [(70, _), (71, _)] (_) (fun vs w hK => ⟨wants_none rfl, rho_in rfl (fv (hK 1 (memE rfl))), rho_in rfl (fv (hK 2 (memE rfl))), trivial⟩) rfl (fun wq hI => by exact run_int_add (c := ((i + 1 : Nat) : Int)) rfl rfl rfl (by rw [i64_id (by omega) (by omega)]; omega)) ?_
      refine w_val [(69, _), (72, _)] (_) (fun vs w hK => ⟨wants_none rfl, rho_in rfl (fv (hK 0 (memE rfl))), rho_in rfl (fv (hK 3 (memE rfl))), trivial⟩) rfl (fun wq hI => by exact run_slice_op rfl rfl (HCUT2.out wq)) ?_
      refine w_move (.inl rfl) (fun vs w hK => ⟨wants_none rfl, rho_out rfl rfl⟩) ?_
      refine w_move (.inl rfl) (fun vs w hK => ⟨wants_none rfl, rho_out rfl rfl⟩) ?_
      refine w_val [(74, _), (75, _)] (_) (fun vs w hK => ⟨wants_none rfl, rho_in rfl (fv (hK 5 (memE rfl))), rho_in rfl (fv (hK 6 (memE rfl))), trivial⟩) rfl (fun wq hI => by exact run_slice_op rfl rfl (HCUT3.out wq)) ?_
      refine w_lin (FW.of (fun _ W => W.heap[g]? = some (.cells C1.toArray 3 (0, 0))) (fun _ _ _ h hb => box_stays h hb)) (by decide) (fun vs wq hI hJ hK => ?_) ?_
      · have hA := hJ (by decide) (by decide)
        have hll := HLL.out
        obtain ⟨w5, hrun, hs5⟩ := copy_run (dl := n + 1 - (i + 1)) (dc := cap - (i + 1)) (sl := n + 1 - i) (sc := cap - i) (o := (i + 1) * kI) (cs := D) stI hA (by rw [HD.out, nmin_of (r := n - i) (by omega)]) (src_cell hA HA.out HC.out) (by rw [HSM.out, HD.out]; omega) HONE.out 3
        rw [HSM.out, ← HC1.out] at hs5
        exact ob_run [(73, _), (76, _)] (wants_none rfl) ⟨rho_in rfl (fv (hK 4 (memE rfl))), rho_in rfl (fv (hK 7 (memE rfl))), trivial⟩ rfl (run_copy_op rfl rfl rfl hrun) ⟨⟨grown_set hI.1 hs5, hs5.keep hI.2 (Ne.symm hgv)⟩, hs5.at_⟩
      refine w_end rfl rfl rfl (fun vs wq hI hF => ?_)
      simp only [List.reverse_cons, List.reverse_nil, List.nil_append, List.cons_append, finL_val, finL_of, finL_any, finL_app, finL_new, finL_gr, finL_row, finL_box, finL_nil, Act.put, List.setIfInBounds_toArray, List.set_cons_zero, List.set_cons_succ, Nat.reduceAdd]
      have HI5 := Lib.hid hI
      have HG5 : Hid (wq.heap[g]? = some (.cells C1.toArray 3 (0, 0))) := Lib.hid (hF 8 (by decide) rfl)
      clear hI hF HG4 HV4 HR4 HCUT2
      obtain ⟨w5, rfl⟩ : ∃ w5 : World, w5 = wq := ⟨_, rfl⟩
      go_upto_region 16 with fail
      refine plain_ (fun W => w.grownBy W (some g) ∧ W.heap[vb]? = some (.cells (encI x).toArray 3 (0, 0))) (fun W => W.heap[g]? = some (.cells C1.toArray 3 (0, 0))) reg_56_16 rfl (fun _ _ h k => ⟨grown_then h.1 k, box_stays h.2 k⟩) (fun _ _ h k => box_stays h k) HI5.out HG5.out ?_
      refine w_move (.inl rfl) (fun vs w hK => ⟨wants_none rfl, rho_out rfl rfl⟩) ?_
      refine w_move (.inl rfl) (fun vs w hK => ⟨wants_none rfl, rho_out rfl rfl⟩) ?_
      refine w_val [(78, _), (79, _)] (_) (fun vs w hK => ⟨wants_none rfl, rho_in rfl (fv (hK 0 (memE rfl))), rho_in rfl (fv (hK 1 (memE rfl))), trivial⟩) rfl (fun wq hI => by exact run_slice_op rfl rfl (HCUT3.out wq)) ?_
      refine w_move (.inl rfl) (fun vs w hK => ⟨wants_none rfl, rho_out rfl rfl⟩) ?_
      refine w_lin (FW.of (fun _ W => W.heap[g]? = some (.cells C2.toArray 3 (0, 0))) (fun _ _ _ h hb => box_stays h hb)) (by decide) (fun vs wq hI hJ hK => ?_) ?_
      · have hA := hJ (by decide) (by decide)
        have hll := HLL.out
        obtain ⟨w6, hrun, hs6⟩ := copy_run (dl := n + 1 - i) (dc := cap - i) (sl := 1) (sc := 1) (o := i * kI) (cs := encI x) stI hA (by rw [encI_len, nmin_of (r := 1) (by omega), Nat.one_mul]) (blk_cells hI.2) (by rw [encI_len, HLAY.out.2.1]; omega) (encI_one x) 3
        rw [← HC2.out] at hs6
        exact ob_run [(80, _), (81, _)] (wants_none rfl) ⟨rho_in rfl (fv (hK 2 (memE rfl))), rho_in rfl (fv (hK 3 (memE rfl))), trivial⟩ rfl (run_copy_op rfl rfl rfl hrun) ⟨⟨grown_set hI.1 hs6, hs6.keep hI.2 (Ne.symm hgv)⟩, hs6.at_⟩
      refine w_end rfl rfl rfl (fun vs wq hI hF => ?_)
      simp only [List.reverse_cons, List.reverse_nil, List.nil_append, List.cons_append, finL_val, finL_of, finL_any, finL_app, finL_new, finL_gr, finL_row, finL_box, finL_nil, Act.put, List.setIfInBounds_toArray, List.set_cons_zero, List.set_cons_succ, Nat.reduceAdd]
      have HI6 := Lib.hid hI.1
      have HG6 : Hid (wq.heap[g]? = some (.cells C2.toArray 3 (0, 0))) := Lib.hid (hF 4 (by decide) rfl)
      clear hI hF HI5 HG5 HCUT3
      go_wp2_with fail
      go_ret
      refine ⟨_, rfl, ?_, HI6.out, .inl rfl⟩
      have h := own_cells (enc := encI) (k := kI) (e := 3) (cap := cap) (B := B) (ys := ys) (R := cur.drop (i * kI + kI + (n - i) * kI)) encI_len (by rw [HFIN.out, ← HLAY.out.1]; exact HG6.out) (by rw [HFIN.out, ← HLAY.out.1, HLAY.out.2.2, HCL.out]) (by rw [HFL.out]; omega) hcm hBg
      rw [HFL.out] at h
      exact h
    · obtain rfl : n = cap := by omega
      have HCUT0 := Lib.hid (cut_hi stI (some ⟨g, 0, none⟩) n n i (by omega) .i64 (i : Int) rfl)
      go_enter Try.func56, Try.ntmps56
      go_upto_region 1 with fail
      refine plain_ (fun wq => Below w.heap.size w wq) (fun _ => True) reg_56_1 rfl inv0 (fun _ _ _ _ => trivial) (Below.refl _ _) trivial ?_
      refine w_move (.inl rfl) (fun vs w hK => ⟨wants_none rfl, rho_out rfl rfl⟩) ?_
      refine w_move (.inl rfl) (fun vs w hK => ⟨wants_none rfl, rho_out rfl rfl⟩) ?_
      refine w_val [(10, _), (11, _)] (_) (fun vs w hK => ⟨wants_none rfl, rho_in rfl (fv (hK 0 (memE rfl))), rho_in rfl (fv (hK 1 (memE rfl))), trivial⟩) rfl (fun wq hI => by exact run_slice_op rfl rfl (HCUT1.out wq)) ?_
      refine w_end rfl rfl rfl (fun vs wq hI hF => ?_)
      simp only [List.reverse_cons, List.reverse_nil, List.nil_append, List.cons_append, finL_val, finL_of, finL_any, finL_app, finL_new, finL_gr, finL_row, finL_box, finL_nil, Act.put, List.setIfInBounds_toArray, List.set_cons_zero, List.set_cons_succ, Nat.reduceAdd]
      have HW1 := Lib.hid hI
      clear hI hF
      obtain ⟨w1, rfl⟩ : ∃ w1 : World, w1 = wq := ⟨_, rfl⟩
      go_upto_region 8 with fail
      refine plain_ (fun wq => Below w1.heap.size w1 wq) (fun _ => True) reg_56_8 rfl inv0 (fun _ _ _ _ => trivial) (Below.refl _ _) trivial ?_
      refine w_move (.inl rfl) (fun vs w hK => ⟨wants_none rfl, rho_out rfl rfl⟩) ?_
      refine w_move (.inl rfl) (fun vs w hK => ⟨wants_none rfl, rho_out rfl rfl⟩) ?_
      refine w_val [(26, _), (27, _)] (_) (fun vs w hK => ⟨wants_none rfl, rho_in rfl (fv (hK 0 (memE rfl))), rho_in rfl (fv (hK 1 (memE rfl))), trivial⟩) rfl (fun wq hI => by exact run_int_add (c := ((n + 1 : Nat) : Int)) rfl rfl rfl (by rw [i64_id (by omega) (by omega)]; omega)) ?_
      refine w_move (.inl rfl) (fun vs w hK => ⟨wants_none rfl, rho_out rfl rfl⟩) ?_
      refine w_val [(29, _)] _ (fun vs w hK => ⟨wants_none rfl, rho_in rfl (fv (hK 3 (memE rfl))), trivial⟩) rfl (fun wq hI => by simp only [execOp, Option.map_some, Option.map_none, lk_tmp, lk_const, lkT_cons, ↓reduceIte, Nat.reduceEqDiff]; go_simp; (first | done | rfl)) ?_
      refine w_val [(28, _), (30, _)] (_) (fun vs w hK => ⟨wants_none rfl, rho_in rfl (fv (hK 2 (memE rfl))), rho_in rfl (fv (hK 4 (memE rfl))), trivial⟩) rfl (fun wq hI => by exact run_int_gtr (r := true) rfl rfl rfl (decide_eq_true (by omega))) ?_
      refine w_end rfl rfl rfl (fun vs wq hI hF => ?_)
      simp only [List.reverse_cons, List.reverse_nil, List.nil_append, List.cons_append, finL_val, finL_of, finL_any, finL_app, finL_new, finL_gr, finL_row, finL_box, finL_nil, Act.put, List.setIfInBounds_toArray, List.set_cons_zero, List.set_cons_succ, Nat.reduceAdd]
      have HW2 := Lib.hid (below_then HW1.out HW1.out.size hI)
      clear hI hF HW1
      obtain ⟨w2, rfl⟩ : ∃ w2 : World, w2 = wq := ⟨_, rfl⟩
      have HTA : Hid (cur.take (i * kI) = A) := Lib.hid (by
        have h := congrArg (List.take (i * kI)) HC.out
        rw [List.take_take, Nat.min_eq_left (by omega)] at h
        rw [h, ← HA.out, List.take_left])
      go_upto_region 9 with fail
      refine plain_ (fun W => Below w.heap.size w W) (fun _ => True) reg_56_9 rfl inv0 (fun _ _ _ _ => trivial) HW2.out trivial ?_
      refine w_move (.inl rfl) (fun vs w hK => ⟨wants_none rfl, rho_out rfl rfl⟩) ?_
      refine w_move (.inl rfl) (fun vs w hK => ⟨wants_none rfl, rho_out rfl rfl⟩) ?_
      refine w_val [(32, _), (33, _)] (_) (fun vs w hK => ⟨wants_none rfl, rho_in rfl (fv (hK 0 (memE rfl))), rho_in rfl (fv (hK 1 (memE rfl))), trivial⟩) rfl (fun wq hI => by exact run_slice_op rfl rfl (HCUT0.out wq)) ?_
      refine w_move (.inl rfl) (fun vs w hK => ⟨wants_none rfl, rho_out rfl rfl⟩) ?_
      refine w_move (.inl rfl) (fun vs w hK => ⟨wants_none rfl, rho_out rfl rfl⟩) ?_
      refine w_val [(35, _), (36, _)] (_) (fun vs w hK => ⟨wants_none rfl, rho_in rfl (fv (hK 3 (memE rfl))), rho_in rfl (fv (hK 4 (memE rfl))), trivial⟩) rfl (fun wq hI => by exact run_int_add (c := ((n + 1 : Nat) : Int)) rfl rfl rfl (by rw [i64_id (by omega) (by omega)]; omega)) ?_
      refine w_move (.inl rfl) (fun vs w hK => ⟨wants_none rfl, rho_out rfl rfl⟩) ?_
      refine w_val [(37, _), (38, _)] (_) (fun vs w hK => ⟨wants_none rfl, rho_in rfl (fv (hK 5 (memE rfl))), rho_in rfl (fv (hK 6 (memE rfl))), trivial⟩) rfl (fun wq hI => by exact run_int_sub (c := ((n + 1 - i : Nat) : Int)) rfl rfl rfl (by rw [i64_id (by omega) (by omega)]; omega)) ?_
      refine w_any (FW.of (fun v W => ∃ (b cap' : Nat) (rest : List Value), v = .slice (some ⟨b, 0, none⟩) (n + 1) cap' ∧ w.heap.size ≤ b ∧ n + 1 ≤ cap' ∧ cap' ≤ maxLen ∧ rest.length = (cap' - i) * kI ∧ W.heap[b]? = some (.cells (A ++ rest).toArray 3 (0, 0))) (fun _ _ _ h hb => by obtain ⟨b, cap', rest, h1, h2, h3, h4, h5, h6⟩ := h; exact ⟨b, cap', rest, h1, h2, h3, h4, h5, box_stays h6 hb⟩)) (by decide) (fun vs wq hI hK => ?_) ?_
      · obtain ⟨w5, cap', rest, hrun, hb5, h1, h2, h3, h4, _⟩ := zeros_run (i := i) (m := n + 1 - i) (kq := .i64) etI Try.underlying3 (box_stays HG.out hI) HCL.out hi (by omega) (by omega) (by omega) (by simp only [maxLen]; omega) 34
        rw [show i + (n + 1 - i) = n + 1 by omega] at hrun h1
        rw [HTA.out] at h4
        exact ob_run [(34, _), (39, _)] (wants_none rfl) ⟨rho_in rfl (fv (hK 2 (memE rfl))), rho_in rfl (fv (hK 7 (memE rfl))), trivial⟩ rfl (run_append_op rfl rfl rfl hrun) ⟨hb5, _, cap', rest, rfl, hI.size, h1, h2, h3, h4⟩
      refine w_any (FW.of (fun v W => ∃ (b cap' : Nat) (rest : List Value), v = .slice (some ⟨b, 0, none⟩) (n + 1) cap' ∧ w.heap.size ≤ b ∧ n + 1 ≤ cap' ∧ cap' ≤ maxLen ∧ rest.length = (cap' - i) * kI ∧ W.heap[b]? = some (.cells (A ++ rest).toArray 3 (0, 0))) (fun _ _ _ h hb => by obtain ⟨b, cap', rest, h1, h2, h3, h4, h5, h6⟩ := h; exact ⟨b, cap', rest, h1, h2, h3, h4, h5, box_stays h6 hb⟩)) (by decide) (fun vs wq hI hK => ?_) ?_
      · exact ob_copy (.inr rfl) (wants_none rfl) (rho_in rfl rfl) ⟨Below.refl _ _, hK 8 (memE rfl)⟩
      refine w_end rfl rfl rfl (fun vs wq hI hF => ?_)
      simp only [List.reverse_cons, List.reverse_nil, List.nil_append, List.cons_append, finL_val, finL_of, finL_any, finL_app, finL_new, finL_gr, finL_row, finL_box, finL_nil, Act.put, List.setIfInBounds_toArray, List.set_cons_zero, List.set_cons_succ, Nat.reduceAdd]
      obtain ⟨b, cap', rest, e9, hwb, hc1, hc2, hrl, hb9⟩ : ∃ (b cap' : Nat) (rest : List Value), vs 9 = .slice (some ⟨b, 0, none⟩) (n + 1) cap' ∧ w.heap.size ≤ b ∧ n + 1 ≤ cap' ∧ cap' ≤ maxLen ∧ rest.length = (cap' - i) * kI ∧ wq.heap[b]? = some (.cells (A ++ rest).toArray 3 (0, 0)) := hF 9 (by decide) rfl
      rw [e9]
      have HW4 := Lib.hid hI
      have HB9 := Lib.hid hb9
      have HRL := Lib.hid hrl
      clear hI hF e9 hb9 hrl HW2 HCUT0
      obtain ⟨w4, rfl⟩ : ∃ w4 : World, w4 = wq := ⟨_, rfl⟩
      have hLL : kI + (n - i) * kI ≤ (cap' - i) * kI := by
        have h1 := Nat.mul_le_mul_right kI (show 1 + (n - i) ≤ cap' - i by omega)
        rw [Nat.add_mul, Nat.one_mul] at h1
        exact h1
      obtain ⟨D1, hD1⟩ : ∃ D1, D1 = (A ++ rest).take (i * kI) ++ encI x ++ (A ++ rest).drop (i * kI + (encI x).length) := ⟨_, rfl⟩
      obtain ⟨D2, hD2⟩ : ∃ D2, D2 = D1.take (i * kI + kI) ++ D ++ D1.drop (i * kI + kI + D.length) := ⟨_, rfl⟩
      have HLAY := Lib.hid (lay_grow A rest (encI x) D (i * kI) ((n - i) * kI) kI ((cap' - i) * kI) HA.out HD.out (encI_len x) HRL.out hLL D1 D2 hD1 hD2)
      have HD1 := Lib.hid hD1
      have HD2 := Lib.hid hD2
      have HLL := Lib.hid hLL
      have hcap : i * kI + (cap' - i) * kI = cap' * kI := by rw [← Nat.add_mul]; congr 1; omega
      have HCAP := Lib.hid hcap
      clear hD1 hD2 hLL hcap
      have HCUT2 := Lib.hid (cut_lo stI b (n + 1) cap' i (by omega) (by omega) .i64 (i : Int) rfl)
      have HCUT3 := Lib.hid (cut_lo stI b (n + 1) cap' (i + 1) (by omega) (by omega) .i64 ((i + 1 : Nat) : Int) rfl)
      go_upto_region 10 with fail
      refine plain_ (fun W => Below w.heap.size w W) (fun W => W.heap[b]? = some (.cells (A ++ rest).toArray 3 (0, 0))) reg_56_10 rfl inv0 (fun _ _ h k => box_stays h k) HW4.out HB9.out ?_
      refine w_move (.inl rfl) (fun vs w hK => ⟨wants_none rfl, rho_out rfl rfl⟩) ?_
      refine w_move (.inl rfl) (fun vs w hK => ⟨wants_none rfl, rho_out rfl rfl⟩) ?_
      refine w_val [(41, _), (42, _)] (_) (fun vs w hK => ⟨wants_none rfl, rho_in rfl (fv (hK 0 (memE rfl))), rho_in rfl (fv (hK 1 (memE rfl))), trivial⟩) rfl (fun wq hI => by exact run_slice_op rfl rfl (HCUT2.out wq)) ?_
      refine w_move (.inl rfl) (fun vs w hK => ⟨wants_none rfl, rho_out rfl rfl⟩) ?_
      refine w_lin (FW.of (fun _ W => W.heap[b]? = some (.cells D1.toArray 3 (0, 0))) (fun _ _ _ h hb => box_stays h hb)) (by decide) (fun vs wq hI hJ hK => ?_) ?_
      · have hA := hJ (by decide) (by decide)
        have hll := HLL.out
        obtain ⟨w6, hrun, hs6⟩ := copy_run (dl := n + 1 - i) (dc := cap' - i) (sl := 1) (sc := 1) (o := i * kI) (cs := encI x) stI hA (by rw [encI_len, nmin_of (r := 1) (by omega), Nat.one_mul]) (blk_cells (box_stays HV.out hI)) (by rw [encI_len, List.length_append, HA.out, HRL.out]; omega) (encI_one x) 3
        rw [← HD1.out] at hs6
        exact ob_run [(43, _), (44, _)] (wants_none rfl) ⟨rho_in rfl (fv (hK 2 (memE rfl))), rho_in rfl (fv (hK 3 (memE rfl))), trivial⟩ rfl (run_copy_op rfl rfl rfl hrun) ⟨hs6.then_ hI hwb, hs6.at_⟩
      refine w_end rfl rfl rfl (fun vs wq hI hF => ?_)
      simp only [List.reverse_cons, List.reverse_nil, List.nil_append, List.cons_append, finL_val, finL_of, finL_any, finL_app, finL_new, finL_gr, finL_row, finL_box, finL_nil, Act.put, List.setIfInBounds_toArray, List.set_cons_zero, List.set_cons_succ, Nat.reduceAdd]
      have HW5 := Lib.hid hI
      have HB5 : Hid (wq.heap[b]? = some (.cells D1.toArray 3 (0, 0))) := Lib.hid (hF 4 (by decide) rfl)
      clear hI hF HW4 HB9 HCUT2
      obtain ⟨w5, rfl⟩ : ∃ w5 : World, w5 = wq := ⟨_, rfl⟩
      go_upto_region 11 with fail
      refine draws_ (fun W => Below w.heap.size w W) (fun W => W.heap[b]? = some (.cells D1.toArray 3 (0, 0))) (by kernel_rfl) reg_56_11 rfl inv0 (fun _ _ h k => box_stays h k) (below_drew HW5.out) HB5.out ?_
      refine w_move (.inl rfl) (fun vs w hK => ⟨wants_none rfl, rho_out rfl rfl⟩) ?_
      refine w_move (.inl rfl) (fun vs w hK => ⟨wants_none rfl, rho_out rfl rfl⟩) ?_
      refine w_move (.inl rfl) (fun vs w hK => ⟨wants_none rfl, rho_out rfl rfl⟩) ?_
      refine w_val [(47, _), (48, _)] (_) (fun vs w hK => ⟨wants_none rfl, rho_in rfl (fv (hK 1 (memE rfl))), rho_in rfl (fv (hK 2 (memE rfl))), trivial⟩) rfl (fun wq hI => by exact run_int_add (c := ((i + 1 : Nat) : Int)) rfl rfl rfl (by rw [i64_id (by omega) (by omega)]; omega)) ?_
      refine w_val [(46, _), (49, _)] (_) (fun vs w hK => ⟨wants_none rfl, rho_in rfl (fv (hK 0 (memE rfl))), rho_in rfl (fv (hK 3 (memE rfl))), trivial⟩) rfl (fun wq hI => by exact run_slice_op rfl rfl (HCUT3.out wq)) ?_
      refine w_move (.inl rfl) (fun vs w hK => ⟨wants_none rfl, rho_out rfl rfl⟩) ?_
      refine w_move (.inl rfl) (fun vs w hK => ⟨wants_none rfl, rho_out rfl rfl⟩) ?_
      refine w_val [(51, _), (52, _)] (_) (fun vs w hK => ⟨wants_none rfl, rho_in rfl (fv (hK 5 (memE rfl))), rho_in rfl (fv (hK 6 (memE rfl))), trivial⟩) rfl (fun wq hI => by exact run_slice_op rfl rfl (HCUT1.out wq)) ?_
      refine w_lin (FW.of (fun _ W => W.heap[b]? = some (.cells D2.toArray 3 (0, 0))) (fun _ _ _ h hb => box_stays h hb)) (by decide) (fun vs wq hI hJ hK => ?_) ?_
      · have hA := hJ (by decide) (by decide)
        have hll := HLL.out
        obtain ⟨w6, hrun, hs6⟩ := copy_run (dl := n + 1 - (i + 1)) (dc := cap' - (i + 1)) (sl := n - i) (sc := n - i) (o := (i + 1) * kI) (cs := D) stI hA (by rw [HD.out, nmin_of (r := n - i) (by omega)]) (src_cell (box_stays HG.out hI) HA.out HC.out) (by rw [HSM.out, HD.out, HLAY.out.2.1]; omega) HONE.out 3
        rw [HSM.out, ← HD2.out] at hs6
        exact ob_run [(50, _), (53, _)] (wants_none rfl) ⟨rho_in rfl (fv (hK 4 (memE rfl))), rho_in rfl (fv (hK 7 (memE rfl))), trivial⟩ rfl (run_copy_op rfl rfl rfl hrun) ⟨hs6.then_ hI hwb, hs6.at_⟩
      refine w_end rfl rfl rfl (fun vs wq hI hF => ?_)
      simp only [List.reverse_cons, List.reverse_nil, List.nil_append, List.cons_append, finL_val, finL_of, finL_any, finL_app, finL_new, finL_gr, finL_row, finL_box, finL_nil, Act.put, List.setIfInBounds_toArray, List.set_cons_zero, List.set_cons_succ, Nat.reduceAdd]
      have HW6 := Lib.hid hI
      have HB6 : Hid (wq.heap[b]? = some (.cells D2.toArray 3 (0, 0))) := Lib.hid (hF 8 (by decide) rfl)
      clear hI hF HW5 HB5 HCUT3
      go_wp2_with fail
      go_ret
      refine ⟨_, rfl, ?_, grown_below HW6.out, .inr ⟨b, rfl, hwb⟩⟩
      have h := own_cells (enc := encI) (k := kI) (e := 3) (cap := cap') (B := B) (ys := ys) (R := rest.drop (kI + (n - i) * kI)) encI_len (by rw [HFIN.out, ← HLAY.out.1]; exact HB6.out) (by rw [HFIN.out, ← HLAY.out.1, HLAY.out.2.2, HCAP.out]) (by rw [HFL.out]; omega) hc2 (by omega)
      rw [HFL.out] at h
      exact h
  · obtain rfl : i = xs.length := by omega
    obtain ⟨A, n, c, rfl, hnc, HL, hm, hs⟩ := ownk_open encI_len ho
    have hl := HL.out
    rw [hl]
    have e1 : xs.take n ++ [x] ++ xs.drop n = xs ++ [x] := by rw [← hl, List.take_length, List.drop_length, List.append_nil]
    rw [e1]
    obtain ⟨A', hcut⟩ := cut_any stI A n c n (Nat.le_refl _) hnc .i64 (n : Int) rfl
    have HCUT := Lib.hid hcut
    have HS1 := Lib.hid hS1
    clear hcut hS1 hs ho hv e1 hi hge
    go_enter Try.func56, Try.ntmps56
    go_upto_region 1 with fail
    refine plain_ (fun wq => Below w.heap.size w wq) (fun _ => True) reg_56_1 rfl inv0 (fun _ _ _ _ => trivial) (Below.refl _ _) trivial ?_
    refine w_move (.inl rfl) (fun vs w hK => ⟨wants_none rfl, rho_out rfl rfl⟩) ?_
    refine w_move (.inl rfl) (fun vs w hK => ⟨wants_none rfl, rho_out rfl rfl⟩) ?_
    refine w_val [(10, _), (11, _)] (_) (fun vs w hK => ⟨wants_none rfl, rho_in rfl (fv (hK 0 (memE rfl))), rho_in rfl (fv (hK 1 (memE rfl))), trivial⟩) rfl (fun wq hI => by exact run_slice_op rfl rfl (HCUT.out wq)) ?_
    refine w_end rfl rfl rfl (fun vs wq hI hF => ?_)
    simp only [List.reverse_cons, List.reverse_nil, List.nil_append, List.cons_append, finL_val, finL_of, finL_any, finL_app, finL_new, finL_gr, finL_row, finL_box, finL_nil, Act.put, List.setIfInBounds_toArray, List.set_cons_zero, List.set_cons_succ, Nat.reduceAdd]
    have HW := Lib.hid hI
    have HO2 := Lib.hid (ownk_below HO.out hI)
    have HS2 := Lib.hid (sts_below HS1.out hI)
    have hB2 : B ≤ wq.heap.size := by have := hI.size; omega
    clear hI hF HCUT HS1 HV
    go_upto_region 7 with fail
    go_wp2_with (at_builtin; refine gapp_sts (w0 := wq) encI_len encI_one etI rfl (.tmp 23) (.tmp 24) rfl rfl rfl HO2.out HS2.out (Below.refl _ _) hB2 (by rw [hl]; omega) (by rw [hl]; omega) ?_; intro v1 w1 k1 k2 k3 k4)
    go_ret
    exact ⟨v1, rfl, k1, ((Fr.refl w _).below HW.out).trans k4⟩
end Go.Proofs.Ytnkeijdpjcclcaa.Mem

