/- Merged of: MemA MemB NumPure Num NumPure2 NumAid Gr2 KeyA KeyD EntO EntA EntB EntC EntD Dep -/
import Derived.Test.YtnkeijdpjcclcaaMI1
import Derived.Test.YtnkeijdpjcclcaaWTab
import Derived.WalkLawsBesides
import Derived.WalkSpells
import Derived.Lib.Bytealg
import Derived.Lib.Strings
import Derived.Test.YtnkeijdpjcclcaaWEqStruct
import Derived.Lib.SmallJoins
-- MemA
/- slices.Insert of one element. -/
namespace Go.Proofs.Ytnkeijdpjcclcaa.Mem
set_option linter.unusedVariables false
set_option linter.unusedSimpArgs false
open Go.Proofs.Ytnkeijdpjcclcaa.Kit Go.RowKit Go.Proofs.YtnkeijdpjcclcaaW.PrintWords Go.Proofs.YtnkeijdpjcclcaaW.PrintLast Go.Proofs.YtnkeijdpjcclcaaW.PrintMore
theorem lay_room {V : Type} (cur A D X : List V) (a d kk : Nat) (hA : A.length = a) (hD : D.length = d) (hX : X.length = kk) (hc : cur.take (a + d) = A ++ D) (hL : a + d + kk ≤ cur.length) (C1 C2 : List V) (h1 : C1 = cur.take (a + kk) ++ D ++ cur.drop (a + kk + D.length)) (h2 : C2 = C1.take a ++ X ++ C1.drop (a + X.length)) :
    C2 = A ++ X ++ D ++ cur.drop (a + kk + d) ∧ C1.length = cur.length ∧ C2.length = cur.length := by
  have e1 : C1.length = cur.length := by
    rw [h1]
    simp only [List.length_append, List.length_take, List.length_drop]
    omega
  have e2 : C1.take a = A := by
    rw [h1, List.append_assoc, List.take_append_of_le_length (by rw [List.length_take]; omega), List.take_take, Nat.min_eq_left (by omega)]
    have h := congrArg (List.take a) hc
    rw [List.take_take, Nat.min_eq_left (by omega)] at h
    rw [h, ← hA, List.take_left]
  have e3 : C1.drop (a + kk) = D ++ cur.drop (a + kk + d) := by
    rw [h1, List.append_assoc, List.drop_append_of_le_length (by rw [List.length_take]; omega), List.drop_eq_nil_of_le (by rw [List.length_take]; omega), List.nil_append, hD]
  have e4 : C2 = A ++ X ++ D ++ cur.drop (a + kk + d) := by
    rw [h2, hX, e2, e3]
    simp only [List.append_assoc]
  refine ⟨e4, e1, ?_⟩
  rw [e4]
  simp only [List.length_append, List.length_drop]
  omega
theorem lay_grow {V : Type} (A rest X D : List V) (a d kk r : Nat) (hA : A.length = a) (hD : D.length = d) (hX : X.length = kk) (hr : rest.length = r) (hL : kk + d ≤ r) (D1 D2 : List V) (h1 : D1 = (A ++ rest).take a ++ X ++ (A ++ rest).drop (a + X.length)) (h2 : D2 = D1.take (a + kk) ++ D ++ D1.drop (a + kk + D.length)) :
    D2 = A ++ X ++ D ++ rest.drop (kk + d) ∧ D1.length = a + r ∧ D2.length = a + r := by
  have e0 : D1 = A ++ X ++ rest.drop kk := by
    rw [h1, ← hA, List.take_left, hX, ← List.drop_drop, List.drop_left]
  have e1 : D2 = A ++ X ++ D ++ rest.drop (kk + d) := by
    have t1 : (A ++ X ++ rest.drop kk).take (a + kk) = A ++ X := by
      rw [show a + kk = (A ++ X).length by simp [hA, hX], List.take_left]
    have t2 : (A ++ X ++ rest.drop kk).drop (a + kk + d) = rest.drop (kk + d) := by
      rw [← List.drop_drop, show a + kk = (A ++ X).length by simp [hA, hX], List.drop_left, List.drop_drop]
    rw [h2, e0, hD, t1, t2]
  refine ⟨e1, ?_, ?_⟩
  · rw [e0]
    simp only [List.length_append, List.length_drop]
    omega
  · rw [e1]
    simp only [List.length_append, List.length_drop]
    omega
theorem nmin_of {a b r : Nat} (h : r = a ∧ a ≤ b ∨ r = b ∧ b ≤ a) : Nat.min a b = r := by
  show min a b = r
  omega
theorem src_cell {W : World} {g a d : Nat} {e : TypeId} {cur A D : List Value} (hg : W.heap[g]? = some (.cells cur.toArray e (0, 0))) (hA : A.length = a) (hc : cur.take (a + d) = A ++ D) : ∀ (j : Nat) (v : Value), D[j]? = some v → W.cell? ((⟨g, a, none⟩ : Addr).add j) = some v := fun j v hv => by
  rw [Addr.add_mid]
  simp only [World.cell?, hg]
  have h : (cur.take (a + d))[a + j]? = some v := by
    rw [hc, List.getElem?_append_right (by omega), hA, Nat.add_sub_cancel_left]
    exact hv
  rw [List.getElem?_take] at h
  split at h
  · simpa using h
  · cases h
theorem blk_cells {W : World} {g : Nat} {e : TypeId} {cs : List Value} (hg : W.heap[g]? = some (.cells cs.toArray e (0, 0))) : ∀ (j : Nat) (v : Value), cs[j]? = some v → W.cell? ((⟨g, 0, none⟩ : Addr).add j) = some v := fun j v hv => by
  rw [Go.Proofs.YtnkeijdpjcclcaaW.PrintWords.add_plain]
  simp only [World.cell?, hg]
  simpa using hv
--BEGIN
def encI (x : Int) : List Value := [.int .i64 x]
def kI : Nat := 1
theorem encI_len (x : Int) : (encI x).length = kI := rfl
theorem encI_one (x : Int) : ∀ u ∈ encI x, u.oneCell' = true := by intro u hu; rw [List.mem_singleton.1 hu]; rfl
theorem etI : EType Try.prog 34 3 kI 8 (.int .i64 0) := ⟨Try.underlying34, by kernel_rfl, rfl, by decide⟩
theorem stI : StTy Try.prog 34 3 kI := etype_st etI
theorem reg_56_1 : RegOk (opsOf Try.f56 1) [[], [], [0, 1]] [] [some 10, some 11, some 12] := regOk (by kernel_rfl)
theorem reg_56_8 : RegOk (opsOf Try.f56 8) [[], [], [0, 1], [], [3], [0, 1, 2, 3, 4]] [] [some 26, some 27, some 28, some 29, some 30, some 31] := regOk (by kernel_rfl)
theorem reg_56_9 : RegOk (opsOf Try.f56 9) [[], [], [0, 1], [], [], [3, 4], [], [3, 4, 5, 6], [0, 1, 2, 3, 4, 5, 6, 7], [0, 1, 2, 3, 4, 5, 6, 7, 8]] [] [some 32, some 33, some 34, some 35, some 36, some 37, some 38, some 39, some 40, some 9] := regOk (by kernel_rfl)
theorem reg_56_10 : RegOk (opsOf Try.f56 10) [[], [], [0, 1], [], [0, 1, 2, 3]] [4] [some 41, some 42, some 43, some 44, some 45] := regOk (by kernel_rfl)
theorem reg_56_11 : RegOk (opsOf Try.f56 11) [[], [], [], [1, 2], [0, 1, 2, 3], [], [], [5, 6], [0, 1, 2, 3, 4, 5, 6, 7]] [8] [some 46, some 47, some 48, some 49, some 50, some 51, some 52, some 53, some 54] := regOk (by kernel_rfl)
theorem reg_56_13 : RegOk (opsOf Try.f56 13) [[], [], [], [1, 2], [0, 1, 2, 3], [0, 1, 2, 3, 4]] [] [some 56, some 57, some 58, some 59, some 60, some 0] := regOk (by kernel_rfl)
theorem reg_56_14 : RegOk (opsOf Try.f56 14) [[], [], [], [], [2, 3], [1, 2, 3, 4], [0, 1, 2, 3, 4, 5], [0, 1, 2, 3, 4, 5, 6]] [] [some 61, some 62, some 63, some 64, some 65, some 66, some 67, some 68] := regOk (by kernel_rfl)
theorem reg_56_15 : RegOk (opsOf Try.f56 15) [[], [], [], [1, 2], [0, 1, 2, 3], [], [], [5, 6], [0, 1, 2, 3, 4, 5, 6, 7]] [8] [some 69, some 70, some 71, some 72, some 73, some 74, some 75, some 76, some 77] := regOk (by kernel_rfl)
theorem reg_56_16 : RegOk (opsOf Try.f56 16) [[], [], [0, 1], [], [0, 1, 2, 3]] [4] [some 78, some 79, some 80, some 81, some 82] := regOk (by kernel_rfl)
set_option maxRecDepth 20000 in
set_option maxHeartbeats 3200000 in
theorem insI_any (v : Value) (xs : List Int) (i : Nat) (x : Int) (vb : Nat) (w : World) {B : Nat} (ho : OwnK encI kI 3 w B v xs) (hv : w.heap[vb]? = some (.cells (encI x).toArray 3 (0, 0))) (hne : v.ownBlock ≠ some vb) (hi : i ≤ xs.length) (hB : B ≤ w.heap.size) (hx : xs.length ≤ 1000000) :
    Calls Try.prog 56 #[v, .int .i64 (i : Nat), .slice (some ⟨vb, 0, none⟩) 1 1] w fun e w' => ∃ v1, e = .returned v1 ∧ OwnK encI kI 3 w' B v1 (xs.take i ++ [x] ++ xs.drop i) ∧ Fr w w' v v1 := by
  have HV := Lib.hid hv
  have HO := Lib.hid ho
  have hS1 : Sts encI kI w (some ⟨vb, 0, none⟩) 1 [x] := sts_one encI_len rfl hv
  rcases Nat.lt_or_ge i xs.length with hlt | hge
  · obtain ⟨g, cap, cur, rfl, hBg, hg, hnc, hcm, hcl, hct⟩ := own_block ho (by omega)
    have hgv : g ≠ vb := fun e => hne (by rw [e]; rfl)
    have hA : ((xs.take i).flatMap encI).length = i * kI := by rw [flat_length encI_len, List.length_take, Nat.min_eq_left hi]
    have hD : ((xs.drop i).flatMap encI).length = (xs.length - i) * kI := by rw [flat_length encI_len, List.length_drop]
    have hX : (encI x).length = kI := encI_len x
    have had : i * kI + (xs.length - i) * kI = xs.length * kI := by rw [← Nat.add_mul]; congr 1; omega
    have hc : cur.take (i * kI + (xs.length - i) * kI) = (xs.take i).flatMap encI ++ (xs.drop i).flatMap encI := by rw [had, hct, ← List.flatMap_append, List.take_append_drop]
    have hone : ∀ u ∈ (xs.drop i).flatMap encI, u.oneCell' = true := fun u hu => by
      obtain ⟨y, _, hy⟩ := List.mem_flatMap.1 hu
      exact encI_one y u hy
    have hfin : (xs.take i ++ [x] ++ xs.drop i).flatMap encI = (xs.take i).flatMap encI ++ encI x ++ (xs.drop i).flatMap encI := by simp [List.flatMap_append]
    have hfl : (xs.take i ++ [x] ++ xs.drop i).length = xs.length + 1 := by simp only [List.length_append, List.length_take, List.length_drop, List.length_singleton]; omega
    have hsm : (i + 1) * kI = i * kI + kI := Nat.succ_mul i kI
    have tne : ((i : Int) == (xs.length : Int)) = false := by simp only [beq_eq_false_iff_ne, ne_eq]; omega
    have HA := Lib.hid hA
    have HD := Lib.hid hD
    have HC := Lib.hid hc
    have HONE := Lib.hid hone
    have HFIN := Lib.hid hfin
    have HFL := Lib.hid hfl
    have HSM := Lib.hid hsm
    have HG := Lib.hid hg
    have HCL := Lib.hid hcl
    have HAD := Lib.hid had
    have hpk : 0 < kI := by decide
    clear hA hD hc hone hfin hfl hsm hg hcl had hct ho HO hS1 hv hne hX
    generalize hys : xs.take i ++ [x] ++ xs.drop i = ys at HFIN HFL ⊢
    have hys2 := Lib.hid hys
    clear hys
    generalize (xs.take i).flatMap encI = A at HA HC HFIN
    generalize (xs.drop i).flatMap encI = D at HD HC HFIN HONE
    generalize xs.length = n at *
    have HCUT1 := Lib.hid (cut_lo stI g n cap i (by omega) (by omega) .i64 (i : Int) rfl)
    rcases Nat.lt_or_ge n cap with hroom | hfull
    · have HCUT0 := Lib.hid (cut_hi stI (some ⟨g, 0, none⟩) n cap (n + 1) (by omega) .i64 ((n + 1 : Nat) : Int) rfl)
      have HCUT2 := Lib.hid (cut_lo stI g (n + 1) cap (i + 1) (by omega) (by omega) .i64 ((i + 1 : Nat) : Int) rfl)
      have HCUT3 := Lib.hid (cut_lo stI g (n + 1) cap i (by omega) (by omega) .i64 (i : Int) rfl)
      have hL : i * kI + (n - i) * kI + kI ≤ cur.length := by
        rw [HAD.out, HCL.out, ← Nat.succ_mul]
        exact Nat.mul_le_mul_right _ (by omega)
      obtain ⟨C1, hC1⟩ : ∃ C1, C1 = cur.take (i * kI + kI) ++ D ++ cur.drop (i * kI + kI + D.length) := ⟨_, rfl⟩
      obtain ⟨C2, hC2⟩ : ∃ C2, C2 = C1.take (i * kI) ++ encI x ++ C1.drop (i * kI + (encI x).length) := ⟨_, rfl⟩
      have HLAY := Lib.hid (lay_room cur A D (encI x) (i * kI) ((n - i) * kI) kI HA.out HD.out (encI_len x) HC.out hL C1 C2 hC1 hC2)
      have HC1 := Lib.hid hC1
      have HC2 := Lib.hid hC2
      have HLL := Lib.hid hL
      clear hC1 hC2 hL
      go_enter Try.func56, Try.ntmps56
      go_upto_region 1 with fail
      refine plain_ (fun wq => Below w.heap.size w wq) (fun _ => True) reg_56_1 rfl inv0 (fun _ _ _ _ => trivial) (Below.refl _ _) trivial ?_
      refine w_move (.inl rfl) (fun vs w hK => ⟨wants_none rfl, rho_out rfl rfl⟩) ?_
      refine w_move (.inl rfl) (fun vs w hK => ⟨wants_none rfl, rho_out rfl rfl⟩) ?_
      refine w_val [(10, _), (11, _)] (_) (fun vs w hK => ⟨wants_none rfl, rho_in rfl (fv (hK 0 (memE rfl))), rho_in rfl (fv (hK 1 (memE rfl))), trivial⟩) rfl (fun wq hI => by exact run_slice_op rfl rfl (HCUT1.out wq)) ?_
      refine w_end rfl rfl rfl (fun vs wq hI hF => ?_)
      simp only [List.reverse_cons, List.reverse_nil, List.nil_append, List.cons_append, finL_val, finL_of, finL_any, finL_app, finL_new, finL_gr, finL_row, finL_box, finL_nil, Act.put, List.setIfInBounds_toArray, List.set_cons_zero, List.set_cons_succ, Nat.reduceAdd]
      have HW1 := Lib.hid hI
      clear hI hF HCUT1
      obtain ⟨w1, rfl⟩ : ∃ w1 : World, w1 = wq := ⟨_, rfl⟩
      go_upto_region 8 with fail
      refine plain_ (fun wq => Below w1.heap.size w1 wq) (fun _ => True) reg_56_8 rfl inv0 (fun _ _ _ _ => trivial) (Below.refl _ _) trivial ?_
      refine w_move (.inl rfl) (fun vs w hK => ⟨wants_none rfl, rho_out rfl rfl⟩) ?_
      refine w_move (.inl rfl) (fun vs w hK => ⟨wants_none rfl, rho_out rfl rfl⟩) ?_
      refine w_val [(26, _), (27, _)] (_) (fun vs w hK => ⟨wants_none rfl, rho_in rfl (fv (hK 0 (memE rfl))), rho_in rfl (fv (hK 1 (memE rfl))), trivial⟩) rfl (fun wq hI => by exact run_int_add (c := ((n + 1 : Nat) : Int)) rfl rfl rfl (by rw [i64_id (by omega) (by omega)]; omega)) ?_
      refine w_move (.inl rfl) (fun vs w hK => ⟨wants_none rfl, rho_out rfl rfl⟩) ?_
      refine w_val [(29, _)] _ (fun vs w hK => ⟨wants_none rfl, rho_in rfl (fv (hK 3 (memE rfl))), trivial⟩) rfl (fun wq hI => by simp only [execOp, Option.map_some, Option.map_none, lk_tmp, lk_const, lkT_cons, ↓reduceIte, Nat.reduceEqDiff]; go_simp; (first | done | rfl)) ?_
      refine w_val [(28, _), (30, _)] (_) (fun vs w hK => ⟨wants_none rfl, rho_in rfl (fv (hK 2 (memE rfl))), rho_in rfl (fv (hK 4 (memE rfl))), trivial⟩) rfl (fun wq hI => by exact run_int_gtr (r := false) rfl rfl rfl (decide_eq_false (by omega))) ?_
      refine w_end rfl rfl rfl (fun vs wq hI hF => ?_)
      simp only [List.reverse_cons, List.reverse_nil, List.nil_append, List.cons_append, finL_val, finL_of, finL_any, finL_app, finL_new, finL_gr, finL_row, finL_box, finL_nil, Act.put, List.setIfInBounds_toArray, List.set_cons_zero, List.set_cons_succ, Nat.reduceAdd]
      have HW2 := Lib.hid (below_then HW1.out HW1.out.size hI)
      clear hI hF HW1
      obtain ⟨w2, rfl⟩ : ∃ w2 : World, w2 = wq := ⟨_, rfl⟩
      have HG2 := Lib.hid (box_stays HG.out HW2.out)
      have HV2 := Lib.hid (box_stays HV.out HW2.out)
      have hcp : cur.length ≠ 0 := by
        rw [HCL.out]
        exact Nat.ne_of_gt (Nat.mul_pos (by omega) hpk)
      go_upto_region 13 with fail
      refine plain_ (fun wq => Below w2.heap.size w2 wq) (fun _ => True) reg_56_13 rfl inv0 (fun _ _ _ _ => trivial) (Below.refl _ _) trivial ?_
      refine w_move (.inl rfl) (fun vs w hK => ⟨wants_none rfl, rho_out rfl rfl⟩) ?_
      refine w_move (.inl rfl) (fun vs w hK => ⟨wants_none rfl, rho_out rfl rfl⟩) ?_
      refine w_move (.inl rfl) (fun vs w hK => ⟨wants_none rfl, rho_out rfl rfl⟩) ?_
      refine w_val [(57, _), (58, _)] (_) (fun vs w hK => ⟨wants_none rfl, rho_in rfl (fv (hK 1 (memE rfl))), rho_in rfl (fv (hK 2 (memE rfl))), trivial⟩) rfl (fun wq hI => by exact run_int_add (c := ((n + 1 : Nat) : Int)) rfl rfl rfl (by rw [i64_id (by omega) (by omega)]; omega)) ?_
      refine w_val [(56, _), (59, _)] (_) (fun vs w hK => ⟨wants_none rfl, rho_in rfl (fv (hK 0 (memE rfl))), rho_in rfl (fv (hK 3 (memE rfl))), trivial⟩) rfl (fun wq hI => by exact run_slice_op rfl rfl (HCUT0.out wq)) ?_
      refine w_move (.inr rfl) (fun vs w hK => ⟨wants_none rfl, rho_in rfl (fv (hK 4 (memE rfl)))⟩) ?_
      refine w_end rfl rfl rfl (fun vs wq hI hF => ?_)
      simp only [List.reverse_cons, List.reverse_nil, List.nil_append, List.cons_append, finL_val, finL_of, finL_any, finL_app, finL_new, finL_gr, finL_row, finL_box, finL_nil, Act.put, List.setIfInBounds_toArray, List.set_cons_zero, List.set_cons_succ, Nat.reduceAdd]
      have HW3 := Lib.hid hI
      clear hI hF HCUT0
      obtain ⟨w3, rfl⟩ : ∃ w3 : World, w3 = wq := ⟨_, rfl⟩
      go_upto_region 14 with fail
      refine plain_ (fun wq => Below w3.heap.size w3 wq) (fun _ => True) reg_56_14 rfl inv0 (fun _ _ _ _ => trivial) (Below.refl _ _) trivial ?_
      refine w_move (.inl rfl) (fun vs w hK => ⟨wants_none rfl, rho_out rfl rfl⟩) ?_
      refine w_move (.inl rfl) (fun vs w hK => ⟨wants_none rfl, rho_out rfl rfl⟩) ?_
      refine w_move (.inl rfl) (fun vs w hK => ⟨wants_none rfl, rho_out rfl rfl⟩) ?_
      refine w_move (.inl rfl) (fun vs w hK => ⟨wants_none rfl, rho_out rfl rfl⟩) ?_
      refine w_val [(63, _), (64, _)] (_) (fun vs w hK => ⟨wants_none rfl, rho_in rfl (fv (hK 2 (memE rfl))), rho_in rfl (fv (hK 3 (memE rfl))), trivial⟩) rfl (fun wq hI => by exact run_int_add (c := ((i + 1 : Nat) : Int)) rfl rfl rfl (by rw [i64_id (by omega) (by omega)]; omega)) ?_
      refine w_val [(62, _), (65, _)] (_) (fun vs w hK => ⟨wants_none rfl, rho_in rfl (fv (hK 1 (memE rfl))), rho_in rfl (fv (hK 4 (memE rfl))), trivial⟩) rfl (fun wq hI => by exact run_slice_op rfl rfl (HCUT2.out wq)) ?_
      refine w_val [(61, _), (66, _)] (.bool false) (fun vs w hK => ⟨wants_none rfl, rho_in rfl (fv (hK 0 (memE rfl))), rho_in rfl (fv (hK 5 (memE rfl))), trivial⟩) rfl (fun wq hI => by exact op_overlaps (tR := 4) stI rfl Try.func68 (by kernel_rfl) (by kernel_rfl) (by kernel_rfl) (by kernel_rfl) (margs rfl) (Ne.symm hgv) (box_stays HV2.out (below_then HW3.out HW3.out.size hI)) (box_stays HG2.out (below_then HW3.out HW3.out.size hI)) hcp) ?_
      refine w_val [(67, _)] (.bool true) (fun vs w hK => ⟨wants_none rfl, rho_in rfl (fv (hK 6 (memE rfl))), trivial⟩) rfl (fun wq hI => by exact op_not rfl rfl rfl) ?_
      refine w_end rfl rfl rfl (fun vs wq hI hF => ?_)
      simp only [List.reverse_cons, List.reverse_nil, List.nil_append, List.cons_append, finL_val, finL_of, finL_any, finL_app, finL_new, finL_gr, finL_row, finL_box, finL_nil, Act.put, List.setIfInBounds_toArray, List.set_cons_zero, List.set_cons_succ, Nat.reduceAdd]
      have HW4 := Lib.hid (below_then HW3.out HW3.out.size hI)
      clear hI hF HW3
      obtain ⟨w4, rfl⟩ : ∃ w4 : World, w4 = wq := ⟨_, rfl⟩
      have HG4 := Lib.hid (box_stays HG2.out HW4.out)
      have HV4 := Lib.hid (box_stays HV2.out HW4.out)
      have HR4 : Hid (w.grownBy w4 (some g)) := Lib.hid (grown_then (grown_below HW2.out) HW4.out)
      clear HG2 HV2 HW2 HW4
      go_upto_region 15 with fail
      refine draws_ (fun W => w.grownBy W (some g) ∧ W.heap[vb]? = some (.cells (encI x).toArray 3 (0, 0))) (fun W => W.heap[g]? = some (.cells cur.toArray 3 (0, 0))) (by kernel_rfl) reg_56_15 rfl (fun _ _ h k => ⟨grown_then h.1 k, box_stays h.2 k⟩) (fun _ _ h k => box_stays h k) ⟨grown_then HR4.out (below_drew (Below.refl _ _)), HV4.out⟩ HG4.out ?_
      refine w_move (.inl rfl) (fun vs w hK => ⟨wants_none rfl, rho_out rfl rfl⟩) ?_
      refine w_move (.inl rfl) (fun vs w hK => ⟨wants_none rfl, rho_out rfl rfl⟩) ?_
      refine w_move (.inl rfl) (fun vs w hK => ⟨wants_none rfl, rho_out rfl rfl⟩) ?_
      refine w_val [(70, _), (71, _)] (_) (fun vs w hK => ⟨wants_none rfl, rho_in rfl (fv (hK 1 (memE rfl))), rho_in rfl (fv (hK 2 (memE rfl))), trivial⟩) rfl (fun wq hI => by exact run_int_add (c := ((i + 1 : Nat) : Int)) rfl rfl rfl (by rw [i64_id (by omega) (by omega)]; omega)) ?_
      refine w_val [(69, _), (72, _)] (_) (fun vs w hK => ⟨wants_none rfl, rho_in rfl (fv (hK 0 (memE rfl))), rho_in rfl (fv (hK 3 (memE rfl))), trivial⟩) rfl (fun wq hI => by exact run_slice_op rfl rfl (HCUT2.out wq)) ?_
      refine w_move (.inl rfl) (fun vs w hK => ⟨wants_none rfl, rho_out rfl rfl⟩) ?_
      refine w_move (.inl rfl) (fun vs w hK => ⟨wants_none rfl, rho_out rfl rfl⟩) ?_
      refine w_val [(74, _), (75, _)] (_) (fun vs w hK => ⟨wants_none rfl, rho_in rfl (fv (hK 5 (memE rfl))), rho_in rfl (fv (hK 6 (memE rfl))), trivial⟩) rfl (fun wq hI => by exact run_slice_op rfl rfl (HCUT3.out wq)) ?_
      refine w_lin (FW.of (fun _ W => W.heap[g]? = some (.cells C1.toArray 3 (0, 0))) (fun _ _ _ h hb => box_stays h hb)) (by decide) (fun vs wq hI hJ hK => ?_) ?_
      · have hA := hJ (by decide) (by decide)
        have hll := HLL.out
        obtain ⟨w5, hrun, hs5⟩ := copy_run (dl := n + 1 - (i + 1)) (dc := cap - (i + 1)) (sl := n + 1 - i) (sc := cap - i) (o := (i + 1) * kI) (cs := D) stI hA (by rw [HD.out, nmin_of (r := n - i) (by omega)]) (src_cell hA HA.out HC.out) (by rw [HSM.out, HD.out]; omega) HONE.out 3
        rw [HSM.out, ← HC1.out] at hs5
        exact ob_run [(73, _), (76, _)] (wants_none rfl) ⟨rho_in rfl (fv (hK 4 (memE rfl))), rho_in rfl (fv (hK 7 (memE rfl))), trivial⟩ rfl (run_copy_op rfl rfl rfl hrun) ⟨⟨grown_set hI.1 hs5, hs5.keep hI.2 (Ne.symm hgv)⟩, hs5.at_⟩
      refine w_end rfl rfl rfl (fun vs wq hI hF => ?_)
      simp only [List.reverse_cons, List.reverse_nil, List.nil_append, List.cons_append, finL_val, finL_of, finL_any, finL_app, finL_new, finL_gr, finL_row, finL_box, finL_nil, Act.put, List.setIfInBounds_toArray, List.set_cons_zero, List.set_cons_succ, Nat.reduceAdd]
      have HI5 := Lib.hid hI
      have HG5 : Hid (wq.heap[g]? = some (.cells C1.toArray 3 (0, 0))) := Lib.hid (hF 8 (by decide) rfl)
      clear hI hF HG4 HV4 HR4 HCUT2
      obtain ⟨w5, rfl⟩ : ∃ w5 : World, w5 = wq := ⟨_, rfl⟩
      go_upto_region 16 with fail
      refine plain_ (fun W => w.grownBy W (some g) ∧ W.heap[vb]? = some (.cells (encI x).toArray 3 (0, 0))) (fun W => W.heap[g]? = some (.cells C1.toArray 3 (0, 0))) reg_56_16 rfl (fun _ _ h k => ⟨grown_then h.1 k, box_stays h.2 k⟩) (fun _ _ h k => box_stays h k) HI5.out HG5.out ?_
      refine w_move (.inl rfl) (fun vs w hK => ⟨wants_none rfl, rho_out rfl rfl⟩) ?_
      refine w_move (.inl rfl) (fun vs w hK => ⟨wants_none rfl, rho_out rfl rfl⟩) ?_
      refine w_val [(78, _), (79, _)] (_) (fun vs w hK => ⟨wants_none rfl, rho_in rfl (fv (hK 0 (memE rfl))), rho_in rfl (fv (hK 1 (memE rfl))), trivial⟩) rfl (fun wq hI => by exact run_slice_op rfl rfl (HCUT3.out wq)) ?_
      refine w_move (.inl rfl) (fun vs w hK => ⟨wants_none rfl, rho_out rfl rfl⟩) ?_
      refine w_lin (FW.of (fun _ W => W.heap[g]? = some (.cells C2.toArray 3 (0, 0))) (fun _ _ _ h hb => box_stays h hb)) (by decide) (fun vs wq hI hJ hK => ?_) ?_
      · have hA := hJ (by decide) (by decide)
        have hll := HLL.out
        obtain ⟨w6, hrun, hs6⟩ := copy_run (dl := n + 1 - i) (dc := cap - i) (sl := 1) (sc := 1) (o := i * kI) (cs := encI x) stI hA (by rw [encI_len, nmin_of (r := 1) (by omega), Nat.one_mul]) (blk_cells hI.2) (by rw [encI_len, HLAY.out.2.1]; omega) (encI_one x) 3
        rw [← HC2.out] at hs6
        exact ob_run [(80, _), (81, _)] (wants_none rfl) ⟨rho_in rfl (fv (hK 2 (memE rfl))), rho_in rfl (fv (hK 3 (memE rfl))), trivial⟩ rfl (run_copy_op rfl rfl rfl hrun) ⟨⟨grown_set hI.1 hs6, hs6.keep hI.2 (Ne.symm hgv)⟩, hs6.at_⟩
      refine w_end rfl rfl rfl (fun vs wq hI hF => ?_)
      simp only [List.reverse_cons, List.reverse_nil, List.nil_append, List.cons_append, finL_val, finL_of, finL_any, finL_app, finL_new, finL_gr, finL_row, finL_box, finL_nil, Act.put, List.setIfInBounds_toArray, List.set_cons_zero, List.set_cons_succ, Nat.reduceAdd]
      have HI6 := Lib.hid hI.1
      have HG6 : Hid (wq.heap[g]? = some (.cells C2.toArray 3 (0, 0))) := Lib.hid (hF 4 (by decide) rfl)
      clear hI hF HI5 HG5 HCUT3
      go_wp2_with fail
      go_ret
      refine ⟨_, rfl, ?_, HI6.out, .inl rfl⟩
      have h := own_cells (enc := encI) (k := kI) (e := 3) (cap := cap) (B := B) (ys := ys) (R := cur.drop (i * kI + kI + (n - i) * kI)) encI_len (by rw [HFIN.out, ← HLAY.out.1]; exact HG6.out) (by rw [HFIN.out, ← HLAY.out.1, HLAY.out.2.2, HCL.out]) (by rw [HFL.out]; omega) hcm hBg
      rw [HFL.out] at h
      exact h
    · obtain rfl : n = cap := by omega
      have HCUT0 := Lib.hid (cut_hi stI (some ⟨g, 0, none⟩) n n i (by omega) .i64 (i : Int) rfl)
      go_enter Try.func56, Try.ntmps56
      go_upto_region 1 with fail
      refine plain_ (fun wq => Below w.heap.size w wq) (fun _ => True) reg_56_1 rfl inv0 (fun _ _ _ _ => trivial) (Below.refl _ _) trivial ?_
      refine w_move (.inl rfl) (fun vs w hK => ⟨wants_none rfl, rho_out rfl rfl⟩) ?_
      refine w_move (.inl rfl) (fun vs w hK => ⟨wants_none rfl, rho_out rfl rfl⟩) ?_
      refine w_val [(10, _), (11, _)] (_) (fun vs w hK => ⟨wants_none rfl, rho_in rfl (fv (hK 0 (memE rfl))), rho_in rfl (fv (hK 1 (memE rfl))), trivial⟩) rfl (fun wq hI => by exact run_slice_op rfl rfl (HCUT1.out wq)) ?_
      refine w_end rfl rfl rfl (fun vs wq hI hF => ?_)
      simp only [List.reverse_cons, List.reverse_nil, List.nil_append, List.cons_append, finL_val, finL_of, finL_any, finL_app, finL_new, finL_gr, finL_row, finL_box, finL_nil, Act.put, List.setIfInBounds_toArray, List.set_cons_zero, List.set_cons_succ, Nat.reduceAdd]
      have HW1 := Lib.hid hI
      clear hI hF
      obtain ⟨w1, rfl⟩ : ∃ w1 : World, w1 = wq := ⟨_, rfl⟩
      go_upto_region 8 with fail
      refine plain_ (fun wq => Below w1.heap.size w1 wq) (fun _ => True) reg_56_8 rfl inv0 (fun _ _ _ _ => trivial) (Below.refl _ _) trivial ?_
      refine w_move (.inl rfl) (fun vs w hK => ⟨wants_none rfl, rho_out rfl rfl⟩) ?_
      refine w_move (.inl rfl) (fun vs w hK => ⟨wants_none rfl, rho_out rfl rfl⟩) ?_
      refine w_val [(26, _), (27, _)] (_) (fun vs w hK => ⟨wants_none rfl, rho_in rfl (fv (hK 0 (memE rfl))), rho_in rfl (fv (hK 1 (memE rfl))), trivial⟩) rfl (fun wq hI => by exact run_int_add (c := ((n + 1 : Nat) : Int)) rfl rfl rfl (by rw [i64_id (by omega) (by omega)]; omega)) ?_
      refine w_move (.inl rfl) (fun vs w hK => ⟨wants_none rfl, rho_out rfl rfl⟩) ?_
      refine w_val [(29, _)] _ (fun vs w hK => ⟨wants_none rfl, rho_in rfl (fv (hK 3 (memE rfl))), trivial⟩) rfl (fun wq hI => by simp only [execOp, Option.map_some, Option.map_none, lk_tmp, lk_const, lkT_cons, ↓reduceIte, Nat.reduceEqDiff]; go_simp; (first | done | rfl)) ?_
      refine w_val [(28, _), (30, _)] (_) (fun vs w hK => ⟨wants_none rfl, rho_in rfl (fv (hK 2 (memE rfl))), rho_in rfl (fv (hK 4 (memE rfl))), trivial⟩) rfl (fun wq hI => by exact run_int_gtr (r := true) rfl rfl rfl (decide_eq_true (by omega))) ?_
      refine w_end rfl rfl rfl (fun vs wq hI hF => ?_)
      simp only [List.reverse_cons, List.reverse_nil, List.nil_append, List.cons_append, finL_val, finL_of, finL_any, finL_app, finL_new, finL_gr, finL_row, finL_box, finL_nil, Act.put, List.setIfInBounds_toArray, List.set_cons_zero, List.set_cons_succ, Nat.reduceAdd]
      have HW2 := Lib.hid (below_then HW1.out HW1.out.size hI)
      clear hI hF HW1
      obtain ⟨w2, rfl⟩ : ∃ w2 : World, w2 = wq := ⟨_, rfl⟩
      have HTA : Hid (cur.take (i * kI) = A) := Lib.hid (by
        have h := congrArg (List.take (i * kI)) HC.out
        rw [List.take_take, Nat.min_eq_left (by omega)] at h
        rw [h, ← HA.out, List.take_left])
      go_upto_region 9 with fail
      refine plain_ (fun W => Below w.heap.size w W) (fun _ => True) reg_56_9 rfl inv0 (fun _ _ _ _ => trivial) HW2.out trivial ?_
      refine w_move (.inl rfl) (fun vs w hK => ⟨wants_none rfl, rho_out rfl rfl⟩) ?_
      refine w_move (.inl rfl) (fun vs w hK => ⟨wants_none rfl, rho_out rfl rfl⟩) ?_
      refine w_val [(32, _), (33, _)] (_) (fun vs w hK => ⟨wants_none rfl, rho_in rfl (fv (hK 0 (memE rfl))), rho_in rfl (fv (hK 1 (memE rfl))), trivial⟩) rfl (fun wq hI => by exact run_slice_op rfl rfl (HCUT0.out wq)) ?_
      refine w_move (.inl rfl) (fun vs w hK => ⟨wants_none rfl, rho_out rfl rfl⟩) ?_
      refine w_move (.inl rfl) (fun vs w hK => ⟨wants_none rfl, rho_out rfl rfl⟩) ?_
      refine w_val [(35, _), (36, _)] (_) (fun vs w hK => ⟨wants_none rfl, rho_in rfl (fv (hK 3 (memE rfl))), rho_in rfl (fv (hK 4 (memE rfl))), trivial⟩) rfl (fun wq hI => by exact run_int_add (c := ((n + 1 : Nat) : Int)) rfl rfl rfl (by rw [i64_id (by omega) (by omega)]; omega)) ?_
      refine w_move (.inl rfl) (fun vs w hK => ⟨wants_none rfl, rho_out rfl rfl⟩) ?_
      refine w_val [(37, _), (38, _)] (_) (fun vs w hK => ⟨wants_none rfl, rho_in rfl (fv (hK 5 (memE rfl))), rho_in rfl (fv (hK 6 (memE rfl))), trivial⟩) rfl (fun wq hI => by exact run_int_sub (c := ((n + 1 - i : Nat) : Int)) rfl rfl rfl (by rw [i64_id (by omega) (by omega)]; omega)) ?_
      refine w_any (FW.of (fun v W => ∃ (b cap' : Nat) (rest : List Value), v = .slice (some ⟨b, 0, none⟩) (n + 1) cap' ∧ w.heap.size ≤ b ∧ n + 1 ≤ cap' ∧ cap' ≤ maxLen ∧ rest.length = (cap' - i) * kI ∧ W.heap[b]? = some (.cells (A ++ rest).toArray 3 (0, 0))) (fun _ _ _ h hb => by obtain ⟨b, cap', rest, h1, h2, h3, h4, h5, h6⟩ := h; exact ⟨b, cap', rest, h1, h2, h3, h4, h5, box_stays h6 hb⟩)) (by decide) (fun vs wq hI hK => ?_) ?_
      · obtain ⟨w5, cap', rest, hrun, hb5, h1, h2, h3, h4, _⟩ := zeros_run (i := i) (m := n + 1 - i) (kq := .i64) etI Try.underlying3 (box_stays HG.out hI) HCL.out hi (by omega) (by omega) (by omega) (by simp only [maxLen]; omega) 34
        rw [show i + (n + 1 - i) = n + 1 by omega] at hrun h1
        rw [HTA.out] at h4
        exact ob_run [(34, _), (39, _)] (wants_none rfl) ⟨rho_in rfl (fv (hK 2 (memE rfl))), rho_in rfl (fv (hK 7 (memE rfl))), trivial⟩ rfl (run_append_op rfl rfl rfl hrun) ⟨hb5, _, cap', rest, rfl, hI.size, h1, h2, h3, h4⟩
      refine w_any (FW.of (fun v W => ∃ (b cap' : Nat) (rest : List Value), v = .slice (some ⟨b, 0, none⟩) (n + 1) cap' ∧ w.heap.size ≤ b ∧ n + 1 ≤ cap' ∧ cap' ≤ maxLen ∧ rest.length = (cap' - i) * kI ∧ W.heap[b]? = some (.cells (A ++ rest).toArray 3 (0, 0))) (fun _ _ _ h hb => by obtain ⟨b, cap', rest, h1, h2, h3, h4, h5, h6⟩ := h; exact ⟨b, cap', rest, h1, h2, h3, h4, h5, box_stays h6 hb⟩)) (by decide) (fun vs wq hI hK => ?_) ?_
      · exact ob_copy (.inr rfl) (wants_none rfl) (rho_in rfl rfl) ⟨Below.refl _ _, hK 8 (memE rfl)⟩
      refine w_end rfl rfl rfl (fun vs wq hI hF => ?_)
      simp only [List.reverse_cons, List.reverse_nil, List.nil_append, List.cons_append, finL_val, finL_of, finL_any, finL_app, finL_new, finL_gr, finL_row, finL_box, finL_nil, Act.put, List.setIfInBounds_toArray, List.set_cons_zero, List.set_cons_succ, Nat.reduceAdd]
      obtain ⟨b, cap', rest, e9, hwb, hc1, hc2, hrl, hb9⟩ : ∃ (b cap' : Nat) (rest : List Value), vs 9 = .slice (some ⟨b, 0, none⟩) (n + 1) cap' ∧ w.heap.size ≤ b ∧ n + 1 ≤ cap' ∧ cap' ≤ maxLen ∧ rest.length = (cap' - i) * kI ∧ wq.heap[b]? = some (.cells (A ++ rest).toArray 3 (0, 0)) := hF 9 (by decide) rfl
      rw [e9]
      have HW4 := Lib.hid hI
      have HB9 := Lib.hid hb9
      have HRL := Lib.hid hrl
      clear hI hF e9 hb9 hrl HW2 HCUT0
      obtain ⟨w4, rfl⟩ : ∃ w4 : World, w4 = wq := ⟨_, rfl⟩
      have hLL : kI + (n - i) * kI ≤ (cap' - i) * kI := by
        have h1 := Nat.mul_le_mul_right kI (show 1 + (n - i) ≤ cap' - i by omega)
        rw [Nat.add_mul, Nat.one_mul] at h1
        exact h1
      obtain ⟨D1, hD1⟩ : ∃ D1, D1 = (A ++ rest).take (i * kI) ++ encI x ++ (A ++ rest).drop (i * kI + (encI x).length) := ⟨_, rfl⟩
      obtain ⟨D2, hD2⟩ : ∃ D2, D2 = D1.take (i * kI + kI) ++ D ++ D1.drop (i * kI + kI + D.length) := ⟨_, rfl⟩
      have HLAY := Lib.hid (lay_grow A rest (encI x) D (i * kI) ((n - i) * kI) kI ((cap' - i) * kI) HA.out HD.out (encI_len x) HRL.out hLL D1 D2 hD1 hD2)
      have HD1 := Lib.hid hD1
      have HD2 := Lib.hid hD2
      have HLL := Lib.hid hLL
      have hcap : i * kI + (cap' - i) * kI = cap' * kI := by rw [← Nat.add_mul]; congr 1; omega
      have HCAP := Lib.hid hcap
      clear hD1 hD2 hLL hcap
      have HCUT2 := Lib.hid (cut_lo stI b (n + 1) cap' i (by omega) (by omega) .i64 (i : Int) rfl)
      have HCUT3 := Lib.hid (cut_lo stI b (n + 1) cap' (i + 1) (by omega) (by omega) .i64 ((i + 1 : Nat) : Int) rfl)
      go_upto_region 10 with fail
      refine plain_ (fun W => Below w.heap.size w W) (fun W => W.heap[b]? = some (.cells (A ++ rest).toArray 3 (0, 0))) reg_56_10 rfl inv0 (fun _ _ h k => box_stays h k) HW4.out HB9.out ?_
      refine w_move (.inl rfl) (fun vs w hK => ⟨wants_none rfl, rho_out rfl rfl⟩) ?_
      refine w_move (.inl rfl) (fun vs w hK => ⟨wants_none rfl, rho_out rfl rfl⟩) ?_
      refine w_val [(41, _), (42, _)] (_) (fun vs w hK => ⟨wants_none rfl, rho_in rfl (fv (hK 0 (memE rfl))), rho_in rfl (fv (hK 1 (memE rfl))), trivial⟩) rfl (fun wq hI => by exact run_slice_op rfl rfl (HCUT2.out wq)) ?_
      refine w_move (.inl rfl) (fun vs w hK => ⟨wants_none rfl, rho_out rfl rfl⟩) ?_
      refine w_lin (FW.of (fun _ W => W.heap[b]? = some (.cells D1.toArray 3 (0, 0))) (fun _ _ _ h hb => box_stays h hb)) (by decide) (fun vs wq hI hJ hK => ?_) ?_
      · have hA := hJ (by decide) (by decide)
        have hll := HLL.out
        obtain ⟨w6, hrun, hs6⟩ := copy_run (dl := n + 1 - i) (dc := cap' - i) (sl := 1) (sc := 1) (o := i * kI) (cs := encI x) stI hA (by rw [encI_len, nmin_of (r := 1) (by omega), Nat.one_mul]) (blk_cells (box_stays HV.out hI)) (by rw [encI_len, List.length_append, HA.out, HRL.out]; omega) (encI_one x) 3
        rw [← HD1.out] at hs6
        exact ob_run [(43, _), (44, _)] (wants_none rfl) ⟨rho_in rfl (fv (hK 2 (memE rfl))), rho_in rfl (fv (hK 3 (memE rfl))), trivial⟩ rfl (run_copy_op rfl rfl rfl hrun) ⟨hs6.then_ hI hwb, hs6.at_⟩
      refine w_end rfl rfl rfl (fun vs wq hI hF => ?_)
      simp only [List.reverse_cons, List.reverse_nil, List.nil_append, List.cons_append, finL_val, finL_of, finL_any, finL_app, finL_new, finL_gr, finL_row, finL_box, finL_nil, Act.put, List.setIfInBounds_toArray, List.set_cons_zero, List.set_cons_succ, Nat.reduceAdd]
      have HW5 := Lib.hid hI
      have HB5 : Hid (wq.heap[b]? = some (.cells D1.toArray 3 (0, 0))) := Lib.hid (hF 4 (by decide) rfl)
      clear hI hF HW4 HB9 HCUT2
      obtain ⟨w5, rfl⟩ : ∃ w5 : World, w5 = wq := ⟨_, rfl⟩
      go_upto_region 11 with fail
      refine draws_ (fun W => Below w.heap.size w W) (fun W => W.heap[b]? = some (.cells D1.toArray 3 (0, 0))) (by kernel_rfl) reg_56_11 rfl inv0 (fun _ _ h k => box_stays h k) (below_drew HW5.out) HB5.out ?_
      refine w_move (.inl rfl) (fun vs w hK => ⟨wants_none rfl, rho_out rfl rfl⟩) ?_
      refine w_move (.inl rfl) (fun vs w hK => ⟨wants_none rfl, rho_out rfl rfl⟩) ?_
      refine w_move (.inl rfl) (fun vs w hK => ⟨wants_none rfl, rho_out rfl rfl⟩) ?_
      refine w_val [(47, _), (48, _)] (_) (fun vs w hK => ⟨wants_none rfl, rho_in rfl (fv (hK 1 (memE rfl))), rho_in rfl (fv (hK 2 (memE rfl))), trivial⟩) rfl (fun wq hI => by exact run_int_add (c := ((i + 1 : Nat) : Int)) rfl rfl rfl (by rw [i64_id (by omega) (by omega)]; omega)) ?_
      refine w_val [(46, _), (49, _)] (_) (fun vs w hK => ⟨wants_none rfl, rho_in rfl (fv (hK 0 (memE rfl))), rho_in rfl (fv (hK 3 (memE rfl))), trivial⟩) rfl (fun wq hI => by exact run_slice_op rfl rfl (HCUT3.out wq)) ?_
      refine w_move (.inl rfl) (fun vs w hK => ⟨wants_none rfl, rho_out rfl rfl⟩) ?_
      refine w_move (.inl rfl) (fun vs w hK => ⟨wants_none rfl, rho_out rfl rfl⟩) ?_
      refine w_val [(51, _), (52, _)] (_) (fun vs w hK => ⟨wants_none rfl, rho_in rfl (fv (hK 5 (memE rfl))), rho_in rfl (fv (hK 6 (memE rfl))), trivial⟩) rfl (fun wq hI => by exact run_slice_op rfl rfl (HCUT1.out wq)) ?_
      refine w_lin (FW.of (fun _ W => W.heap[b]? = some (.cells D2.toArray 3 (0, 0))) (fun _ _ _ h hb => box_stays h hb)) (by decide) (fun vs wq hI hJ hK => ?_) ?_
      · have hA := hJ (by decide) (by decide)
        have hll := HLL.out
        obtain ⟨w6, hrun, hs6⟩ := copy_run (dl := n + 1 - (i + 1)) (dc := cap' - (i + 1)) (sl := n - i) (sc := n - i) (o := (i + 1) * kI) (cs := D) stI hA (by rw [HD.out, nmin_of (r := n - i) (by omega)]) (src_cell (box_stays HG.out hI) HA.out HC.out) (by rw [HSM.out, HD.out, HLAY.out.2.1]; omega) HONE.out 3
        rw [HSM.out, ← HD2.out] at hs6
        exact ob_run [(50, _), (53, _)] (wants_none rfl) ⟨rho_in rfl (fv (hK 4 (memE rfl))), rho_in rfl (fv (hK 7 (memE rfl))), trivial⟩ rfl (run_copy_op rfl rfl rfl hrun) ⟨hs6.then_ hI hwb, hs6.at_⟩
      refine w_end rfl rfl rfl (fun vs wq hI hF => ?_)
      simp only [List.reverse_cons, List.reverse_nil, List.nil_append, List.cons_append, finL_val, finL_of, finL_any, finL_app, finL_new, finL_gr, finL_row, finL_box, finL_nil, Act.put, List.setIfInBounds_toArray, List.set_cons_zero, List.set_cons_succ, Nat.reduceAdd]
      have HW6 := Lib.hid hI
      have HB6 : Hid (wq.heap[b]? = some (.cells D2.toArray 3 (0, 0))) := Lib.hid (hF 8 (by decide) rfl)
      clear hI hF HW5 HB5 HCUT3
      go_wp2_with fail
      go_ret
      refine ⟨_, rfl, ?_, grown_below HW6.out, .inr ⟨b, rfl, hwb⟩⟩
      have h := own_cells (enc := encI) (k := kI) (e := 3) (cap := cap') (B := B) (ys := ys) (R := rest.drop (kI + (n - i) * kI)) encI_len (by rw [HFIN.out, ← HLAY.out.1]; exact HB6.out) (by rw [HFIN.out, ← HLAY.out.1, HLAY.out.2.2, HCAP.out]) (by rw [HFL.out]; omega) hc2 (by omega)
      rw [HFL.out] at h
      exact h
  · obtain rfl : i = xs.length := by omega
    obtain ⟨A, n, c, rfl, hnc, HL, hm, hs⟩ := ownk_open encI_len ho
    have hl := HL.out
    rw [hl]
    have e1 : xs.take n ++ [x] ++ xs.drop n = xs ++ [x] := by rw [← hl, List.take_length, List.drop_length, List.append_nil]
    rw [e1]
    obtain ⟨A', hcut⟩ := cut_any stI A n c n (Nat.le_refl _) hnc .i64 (n : Int) rfl
    have HCUT := Lib.hid hcut
    have HS1 := Lib.hid hS1
    clear hcut hS1 hs ho hv e1 hi hge
    go_enter Try.func56, Try.ntmps56
    go_upto_region 1 with fail
    refine plain_ (fun wq => Below w.heap.size w wq) (fun _ => True) reg_56_1 rfl inv0 (fun _ _ _ _ => trivial) (Below.refl _ _) trivial ?_
    refine w_move (.inl rfl) (fun vs w hK => ⟨wants_none rfl, rho_out rfl rfl⟩) ?_
    refine w_move (.inl rfl) (fun vs w hK => ⟨wants_none rfl, rho_out rfl rfl⟩) ?_
    refine w_val [(10, _), (11, _)] (_) (fun vs w hK => ⟨wants_none rfl, rho_in rfl (fv (hK 0 (memE rfl))), rho_in rfl (fv (hK 1 (memE rfl))), trivial⟩) rfl (fun wq hI => by exact run_slice_op rfl rfl (HCUT.out wq)) ?_
    refine w_end rfl rfl rfl (fun vs wq hI hF => ?_)
    simp only [List.reverse_cons, List.reverse_nil, List.nil_append, List.cons_append, finL_val, finL_of, finL_any, finL_app, finL_new, finL_gr, finL_row, finL_box, finL_nil, Act.put, List.setIfInBounds_toArray, List.set_cons_zero, List.set_cons_succ, Nat.reduceAdd]
    have HW := Lib.hid hI
    have HO2 := Lib.hid (ownk_below HO.out hI)
    have HS2 := Lib.hid (sts_below HS1.out hI)
    have hB2 : B ≤ wq.heap.size := by have := hI.size; omega
    clear hI hF HCUT HS1 HV
    go_upto_region 7 with fail
    go_wp2_with (at_builtin; refine gapp_sts (w0 := wq) encI_len encI_one etI rfl (.tmp 23) (.tmp 24) rfl rfl rfl HO2.out HS2.out (Below.refl _ _) hB2 (by rw [hl]; omega) (by rw [hl]; omega) ?_; intro v1 w1 k1 k2 k3 k4)
    go_ret
    exact ⟨v1, rfl, k1, ((Fr.refl w _).below HW.out).trans k4⟩
end Go.Proofs.Ytnkeijdpjcclcaa.Mem
-- MemB
/- The order of law 10, slices.BinarySearchFunc at ints. -/
namespace Go.Proofs.Ytnkeijdpjcclcaa.Mem
set_option linter.unusedVariables false
set_option linter.unusedSimpArgs false
open Go.Proofs.Ytnkeijdpjcclcaa.Kit Go.RowKit Go.Proofs.YtnkeijdpjcclcaaW.PrintWords Go.Proofs.YtnkeijdpjcclcaaW.PrintLast Go.Proofs.YtnkeijdpjcclcaaW.PrintMore
section
variable {α : Type} (c : α → α → Int)
/-- The place of the first that isn't ahead of x. -/
def pos (xs : List α) (x : α) : Nat := (xs.takeWhile fun y => decide (c y x < 0)).length
/-- Whether x's equal stands there. -/
def hit (xs : List α) (x : α) : Bool := match xs[pos c xs x]? with | some y => c y x == 0 | none => false
def Mono (xs : List α) (x : α) : Prop := ∀ (i j : Nat) (y z : α), i ≤ j → xs[i]? = some y → xs[j]? = some z → c z x < 0 → c y x < 0
theorem pos_of : ∀ {xs : List α} {x : α} {i : Nat}, i ≤ xs.length → (∀ (j : Nat) (y : α), j < i → xs[j]? = some y → c y x < 0) → (∀ y, xs[i]? = some y → ¬ c y x < 0) → pos c xs x = i
  | [], x, i, h, _, _ => by
    have : i = 0 := by simpa using h
    subst this
    rfl
  | a :: r, x, 0, _, _, h => by
    have := h a rfl
    simp [pos, List.takeWhile_cons, this]
  | a :: r, x, i + 1, h, h1, h2 => by
    have ih := pos_of (xs := r) (x := x) (i := i) (by simpa using h) (fun j y hj hy => h1 (j + 1) y (by omega) (by simpa using hy)) (fun y hy => h2 y (by simpa using hy))
    have h0 := h1 0 a (by omega) rfl
    unfold pos at ih ⊢
    rw [List.takeWhile_cons, if_pos (by simpa using h0), List.length_cons, ih]
theorem pos_le (xs : List α) (x : α) : pos c xs x ≤ xs.length := (List.takeWhile_sublist _).length_le
theorem pos_below : ∀ {xs : List α} {x : α} (j : Nat) (y : α), j < pos c xs x → xs[j]? = some y → c y x < 0
  | [], x, j, y, h, hy => by simp at hy
  | a :: r, x, j, y, h, hy => by
    unfold pos at h
    rw [List.takeWhile_cons] at h
    split at h
    · rename_i ha
      cases j with
      | zero =>
        rw [List.getElem?_cons_zero] at hy
        injection hy with hy
        subst hy
        exact of_decide_eq_true ha
      | succ j =>
        rw [List.length_cons] at h
        exact pos_below (xs := r) j y (by unfold pos; omega) (by simpa using hy)
    · simp at h
theorem pos_at : ∀ {xs : List α} {x : α} (y : α), xs[pos c xs x]? = some y → ¬ c y x < 0
  | [], x, y, hy => by simp at hy
  | a :: r, x, y, hy => by
    unfold pos at hy
    rw [List.takeWhile_cons] at hy
    split at hy
    · rename_i ha
      rw [List.length_cons, List.getElem?_cons_succ] at hy
      exact pos_at (xs := r) y (by unfold pos; exact hy)
    · rename_i ha
      simp only [List.length_nil, List.getElem?_cons_zero, Option.some.injEq] at hy
      subst hy
      simpa using ha
end
/-- The law's order. -/
def ordI (a b : Int) : Int := if Int.tdiv a 3 < Int.tdiv b 3 then -1 else if Int.tdiv a 3 > Int.tdiv b 3 then 1 else 0
theorem tdiv3 {a : Int} (h : -1000000 ≤ a ∧ a ≤ 1000000) : IntKind.i64.wrap (Int.tdiv a 3) = Int.tdiv a 3 := by
  have h0 := Int.natAbs_tdiv_le_natAbs a 3
  have h1 : -1000000 ≤ Int.tdiv a 3 ∧ Int.tdiv a 3 ≤ 1000000 := by omega
  exact i64_id (by omega) (by omega)
theorem reg_25_1 : RegOk (opsOf Try.f25 1) [[], [0], [], [2], [0, 1, 2, 3]] [] [some 5, some 6, some 7, some 8, some 9] := regOk (by kernel_rfl)
theorem reg_25_3 : RegOk (opsOf Try.f25 3) [[], [0], [], [2], [0, 1, 2, 3]] [] [some 10, some 11, some 12, some 13, some 14] := regOk (by kernel_rfl)
set_option maxRecDepth 20000 in
set_option maxHeartbeats 1600000 in
theorem order_any (a b : Int) (w : World) (ha : -1000000 ≤ a ∧ a ≤ 1000000) (hb : -1000000 ≤ b ∧ b ≤ 1000000) : Calls Try.prog 25 #[.int .i64 a, .int .i64 b] w fun e w' => e = .returned (.int .i64 (ordI a b)) ∧ Below w.heap.size w w' := by
  have h1 := tdiv3 ha
  have h2 := tdiv3 hb
  obtain ⟨O, hO⟩ : ∃ O, ordI a b = O := ⟨_, rfl⟩
  rw [hO]
  unfold ordI at hO
  obtain ⟨p, hp⟩ : ∃ p, Int.tdiv a 3 = p := ⟨_, rfl⟩
  obtain ⟨q, hq⟩ : ∃ q, Int.tdiv b 3 = q := ⟨_, rfl⟩
  rw [hp, hq] at hO
  have HA : Hid (IntKind.i64.wrap (Int.tdiv a 3) = p) := Lib.hid (h1.trans hp)
  have HB : Hid (IntKind.i64.wrap (Int.tdiv b 3) = q) := Lib.hid (h2.trans hq)
  have HO := Lib.hid hO
  obtain ⟨D1, hD1⟩ : ∃ D, decide (p < q) = D := ⟨_, rfl⟩
  have HD1 := Lib.hid hD1
  obtain ⟨D2, hD2⟩ : ∃ D, decide (p > q) = D := ⟨_, rfl⟩
  have HD2 := Lib.hid hD2
  clear hD1 hD2 hO ha hb h1 h2 hp hq
  go_enter Try.func25, Try.ntmps25
  go_upto_region 1 with fail
  refine plain_ (fun wq => Below w.heap.size w wq) (fun _ => True) reg_25_1 rfl inv0 (fun _ _ _ _ => trivial) (Below.refl _ _) trivial ?_
  refine w_move (.inl rfl) (fun vs w hK => ⟨wants_none rfl, rho_out rfl rfl⟩) ?_
  refine w_val [(5, _)] (_) (fun vs w hK => ⟨wants_none rfl, rho_in rfl (fv (hK 0 (memE rfl))), trivial⟩) rfl (fun wq hI => by exact op_quo rfl rfl rfl (by decide) HA.out) ?_
  refine w_move (.inl rfl) (fun vs w hK => ⟨wants_none rfl, rho_out rfl rfl⟩) ?_
  refine w_val [(7, _)] (_) (fun vs w hK => ⟨wants_none rfl, rho_in rfl (fv (hK 2 (memE rfl))), trivial⟩) rfl (fun wq hI => by exact op_quo rfl rfl rfl (by decide) HB.out) ?_
  refine w_val [(6, _), (8, _)] (_) (fun vs w hK => ⟨wants_none rfl, rho_in rfl (fv (hK 1 (memE rfl))), rho_in rfl (fv (hK 3 (memE rfl))), trivial⟩) rfl (fun wq hI => by exact run_int_lss rfl rfl rfl HD1.out) ?_
  refine w_end rfl rfl rfl (fun vs wq hI hF => ?_)
  simp only [List.reverse_cons, List.reverse_nil, List.nil_append, List.cons_append, finL_val, finL_of, finL_any, finL_app, finL_new, finL_gr, finL_row, finL_box, finL_nil, Act.put, List.setIfInBounds_toArray, List.set_cons_zero, List.set_cons_succ, Nat.reduceAdd]
  have HW := Lib.hid hI
  clear hI hF
  obtain ⟨w1, rfl⟩ : ∃ w1 : World, w1 = wq := ⟨_, rfl⟩
  cases D1 with
  | true =>
    have e := HO.out
    rw [if_pos (of_decide_eq_true HD1.out)] at e
    go_wp2_with fail
    go_ret
    exact ⟨congrArg (fun o => Ending.returned (Value.int .i64 o)) e, HW.out⟩
  | false =>
    have e := HO.out
    rw [if_neg (of_decide_eq_false HD1.out)] at e
    have HE := Lib.hid e
    clear e HO
    go_upto_region 3 with fail
    refine plain_ (fun wq => Below w1.heap.size w1 wq) (fun _ => True) reg_25_3 rfl inv0 (fun _ _ _ _ => trivial) (Below.refl _ _) trivial ?_
    refine w_move (.inl rfl) (fun vs w hK => ⟨wants_none rfl, rho_out rfl rfl⟩) ?_
    refine w_val [(10, _)] (_) (fun vs w hK => ⟨wants_none rfl, rho_in rfl (fv (hK 0 (memE rfl))), trivial⟩) rfl (fun wq hI => by exact op_quo rfl rfl rfl (by decide) HA.out) ?_
    refine w_move (.inl rfl) (fun vs w hK => ⟨wants_none rfl, rho_out rfl rfl⟩) ?_
    refine w_val [(12, _)] (_) (fun vs w hK => ⟨wants_none rfl, rho_in rfl (fv (hK 2 (memE rfl))), trivial⟩) rfl (fun wq hI => by exact op_quo rfl rfl rfl (by decide) HB.out) ?_
    refine w_val [(11, _), (13, _)] (_) (fun vs w hK => ⟨wants_none rfl, rho_in rfl (fv (hK 1 (memE rfl))), rho_in rfl (fv (hK 3 (memE rfl))), trivial⟩) rfl (fun wq hI => by exact run_int_gtr rfl rfl rfl HD2.out) ?_
    refine w_end rfl rfl rfl (fun vs wq hI hF => ?_)
    simp only [List.reverse_cons, List.reverse_nil, List.nil_append, List.cons_append, finL_val, finL_of, finL_any, finL_app, finL_new, finL_gr, finL_row, finL_box, finL_nil, Act.put, List.setIfInBounds_toArray, List.set_cons_zero, List.set_cons_succ, Nat.reduceAdd]
    have HW2 := Lib.hid (below_then HW.out HW.out.size hI)
    clear hI hF
    cases D2 with
    | true =>
      have e := HE.out
      rw [if_pos (of_decide_eq_true HD2.out)] at e
      go_wp2_with fail
      go_ret
      exact ⟨congrArg (fun o => Ending.returned (Value.int .i64 o)) e, HW2.out⟩
    | false =>
      have e := HE.out
      rw [if_neg (of_decide_eq_false HD2.out)] at e
      go_wp2_with fail
      go_ret
      exact ⟨congrArg (fun o => Ending.returned (Value.int .i64 o)) e, HW2.out⟩
theorem half_i64 (q : Nat) (h : q ≤ 4000000000) : ((q : Nat) : Int) / 2 ^ min ((1 : Int)).toNat IntKind.u64.bits = ((q / 2 : Nat) : Int) := by
  show ((q : Nat) : Int) / 2 ^ 1 = _
  omega
--BSF
theorem reg_55_4 : RegOk (opsOf Try.f55 4) [[], [], [0, 1], [0, 1, 2], [0, 1, 2, 3], [0, 1, 2, 3, 4], [0, 1, 2, 3, 4, 5]] [] [some 18, some 19, some 20, some 21, some 22, some 23, some 11] := regOk (by kernel_rfl)
theorem reg_55_8 : RegOk (opsOf Try.f55 8) [[], [], [], [1, 2], [1, 2, 3], [1, 2, 3, 4], [1, 2, 3, 4], [1, 2, 3, 4], [1, 2, 3, 4, 6, 7], [1, 2, 3, 4, 6, 7, 8], [1, 2, 3, 4], [1, 2, 3, 4, 5, 6, 7, 8, 9, 10], [1, 2, 3, 4, 5, 6, 7, 8, 9, 10, 11], [1, 2, 3, 4, 5, 6, 7, 8, 9, 10, 11, 12], [0, 1, 2, 3, 4, 5, 6, 7, 8, 9, 10, 11], [0, 1, 2, 3, 4, 5, 6, 7, 8, 9, 10, 11, 12, 13, 14]] [] [some 35, some 36, some 37, some 38, some 39, some 40, some 41, some 42, some 43, some 44, some 45, some 46, some 47, some 48, some 6, some 7] := regOk (by kernel_rfl)
set_option maxRecDepth 20000 in
set_option maxHeartbeats 1600000 in
theorem bsfI_any (A : Option Addr) (n c : Nat) (xs : List Int) (x : Int) (w : World) (hn : n ≤ 1000000000) (hr : Sts encI kI w A n xs) (hm : Mono ordI xs x) (hstep : ∀ y W, y ∈ xs → Calls Try.prog 25 #[.int .i64 y, .int .i64 x] W fun e W' => e = .returned (.int .i64 (ordI y x)) ∧ Below W.heap.size W W') :
    Calls Try.prog 55 #[.slice A n c, .int .i64 x, .func (.func 25) #[] #[]] w fun e w' => e = .returned (.tuple #[.int .i64 (pos ordI xs x : Nat), .bool (hit ordI xs x)]) ∧ Below w.heap.size w w' := by
  have HS := Lib.hid hstep
  have HM := Lib.hid hm
  have HR := Lib.hid hr
  have HL := Lib.hid hr.len
  obtain ⟨PO, hPO⟩ : ∃ PO, pos ordI xs x = PO := ⟨_, rfl⟩
  obtain ⟨T, hT⟩ : ∃ T, hit ordI xs x = T := ⟨_, rfl⟩
  rw [hPO, hT]
  have HPO := Lib.hid hPO
  have HTT := Lib.hid hT
  clear hstep hm hr hPO hT
  go_enter Try.func55, Try.ntmps55
  go_wp2_with fail
  go_loopw [9, 10, 11] (fun a b z wr => ∃ i j : Nat, i ≤ j ∧ j ≤ n ∧ a = .int .i64 i ∧ b = .int .i64 j ∧ Hid (∀ (q : Nat) (y : Int), q < i → xs[q]? = some y → ordI y x < 0) ∧ Hid (∀ y : Int, xs[j]? = some y → 0 ≤ ordI y x) ∧ Hid (Below w.heap.size w wr)) (fun a b _ _ => (intOf b).toNat - (intOf a).toNat)
  case atStart => exact ⟨0, n, by omega, by omega, rfl, rfl, Lib.hid (fun q y hq => absurd hq (by omega)), Lib.hid (fun y hy => by have := (List.getElem?_eq_some_iff.1 hy).1; have := HL.out; omega), Lib.hid (Below.refl _ _)⟩
  case round =>
    obtain ⟨i, j, hij, hjn, rfl, rfl, HLo, HHi, HW⟩ := hrel
    by_cases hlt : i < j
    · have t1 : decide ((i : Int) < (j : Int)) = true := decide_eq_true (by omega)
      have hh1 : i ≤ (i + j) / 2 := by omega
      have hh2 : (i + j) / 2 < j := by omega
      have hq := half_i64 (i + j) (by omega)
      generalize hhd : (i + j) / 2 = h at hh1 hh2 hq
      have HQ := Lib.hid hq
      clear hhd hq
      go_upto_region 4 with fail
      refine plain_ (fun wq => Below wr.heap.size wr wq) (fun _ => True) reg_55_4 rfl inv0 (fun _ _ _ _ => trivial) (Below.refl _ _) trivial ?_
      refine w_move (.inl rfl) (fun vs w hK => ⟨wants_none rfl, rho_out rfl rfl⟩) ?_
      refine w_move (.inl rfl) (fun vs w hK => ⟨wants_none rfl, rho_out rfl rfl⟩) ?_
      refine w_val [(18, _), (19, _)] (_) (fun vs w hK => ⟨wants_none rfl, rho_in rfl (fv (hK 0 (memE rfl))), rho_in rfl (fv (hK 1 (memE rfl))), trivial⟩) rfl (fun wq hI => by exact run_int_add (c := ((i + j : Nat) : Int)) rfl rfl rfl (by rw [i64_id (by omega) (by omega)]; omega)) ?_
      refine w_val [(20, _)] (_) (fun vs w hK => ⟨wants_none rfl, rho_in rfl (fv (hK 2 (memE rfl))), trivial⟩) rfl (fun wq hI => by exact op_conv_int (k := .i64) (k2 := .u64) rfl Try.underlying3 Try.underlying78 rfl (u64_nat _ (by omega))) ?_
      refine w_val [(21, _)] (_) (fun vs w hK => ⟨wants_none rfl, rho_in rfl (fv (hK 3 (memE rfl))), trivial⟩) rfl (fun wq hI => by exact op_shr (k := .u64) rfl rfl rfl (by decide) HQ.out) ?_
      refine w_val [(22, _)] (_) (fun vs w hK => ⟨wants_none rfl, rho_in rfl (fv (hK 4 (memE rfl))), trivial⟩) rfl (fun wq hI => by exact op_conv_int (k := .u64) (k2 := .i64) rfl Try.underlying78 Try.underlying3 rfl (i64_id (by omega) (by omega))) ?_
      refine w_move (.inr rfl) (fun vs w hK => ⟨wants_none rfl, rho_in rfl (fv (hK 5 (memE rfl)))⟩) ?_
      refine w_end rfl rfl rfl (fun vs wq hI hF => ?_)
      simp only [List.reverse_cons, List.reverse_nil, List.nil_append, List.cons_append, finL_val, finL_of, finL_any, finL_app, finL_new, finL_gr, finL_row, finL_box, finL_nil, Act.put, List.setIfInBounds_toArray, List.set_cons_zero, List.set_cons_succ, Nat.reduceAdd]
      have HW1 := Lib.hid (below_then HW.out HW.out.size hI)
      clear hF HQ hI HW
      obtain ⟨w1, rfl⟩ : ∃ w1 : World, w1 = wq := ⟨_, rfl⟩
      have hhn : h < n := by omega
      obtain ⟨y, hp⟩ : ∃ y : Int, xs[h]? = some y := ⟨_, List.getElem?_eq_getElem (by rw [HL.out]; exact hhn)⟩
      obtain ⟨ad, rfl, hc⟩ := (sts_below HR.out HW1.out).row (by omega)
      have hcell := hc h _ hp 0 _ rfl
      rw [Addr.add_add, Nat.add_zero] at hcell
      have HS1 := Lib.hid (HS.out y w1 (List.mem_of_getElem? hp))
      have HP := Lib.hid hp
      clear hc hp
      go_wp2_with (first
        | (refine wpList_index_st rfl 34 _ _ rfl stI rfl rfl rfl hhn ?_)
        | fail)
      refine HS1.out.mono ?_
      rintro e w2 ⟨rfl, hb2⟩
      have HW2 := Lib.hid (below_then HW1.out HW1.out.size hb2)
      clear hb2 HS1 HW1 hcell
      obtain ⟨D, hD⟩ : ∃ D, decide (ordI y x < 0) = D := ⟨_, rfl⟩
      have HD := Lib.hid hD
      obtain ⟨O, hO⟩ : ∃ O, ordI y x = O := ⟨_, rfl⟩
      rw [hO] at hD ⊢
      clear hO
      cases D with
      | true =>
        have HL2 : Hid (∀ (q : Nat) (y : Int), q < h + 1 → xs[q]? = some y → ordI y x < 0) := Lib.hid fun q z hq hz => HM.out q h z y (by omega) hz HP.out (of_decide_eq_true HD.out)
        clear HLo HP HD
        go_wp2_with fail
        go_round
        case rel => exact ⟨h + 1, j, by omega, by omega, by go_num, rfl, HL2, HHi, HW2⟩
        case measure => simp [intOf]; omega
      | false =>
        have HH2 : Hid (∀ y : Int, xs[h]? = some y → 0 ≤ ordI y x) := Lib.hid fun z hz => by
          rw [HP.out] at hz
          injection hz with hz
          subst hz
          have := of_decide_eq_false HD.out
          omega
        clear HHi HP HD
        go_wp2_with fail
        go_round
        case rel => exact ⟨i, h, by omega, by omega, rfl, rfl, HLo, HH2, HW2⟩
        case measure => simp [intOf]; omega
    · obtain rfl : i = j := by omega
      have t1 : decide ((i : Int) < (i : Int)) = false := by simp
      have hpos : i = PO := (pos_of ordI (by rw [HL.out]; omega) HLo.out (fun y hy => by have := HHi.out y hy; omega)).symm.trans HPO.out
      subst hpos
      have HT : Hid (T = (decide (((i : Nat) : Int) < (n : Int)) && (ordI (xs.getD i default) x == 0))) := Lib.hid (by
        rw [← HTT.out]
        unfold hit
        rw [HPO.out]
        rcases Nat.lt_or_ge i n with g | g
        · have hl : i < xs.length := by rw [HL.out]; exact g
          rw [List.getElem?_eq_getElem hl, decide_eq_true (by omega), Bool.true_and, List.getD_eq_getElem?_getD, List.getElem?_eq_getElem hl]
          rfl
        · rw [List.getElem?_eq_none (by rw [HL.out]; exact g), decide_eq_false (by omega), Bool.false_and])
      clear HLo HHi HM HTT HPO
      go_upto_region 8 with fail
      refine plain_ (fun wq => Below wr.heap.size wr wq) (fun _ => True) reg_55_8 rfl inv0 (fun _ _ _ _ => trivial) (Below.refl _ _) trivial ?_
      refine w_move (.inl rfl) (fun vs w hK => ⟨wants_none rfl, rho_out rfl rfl⟩) ?_
      refine w_move (.inl rfl) (fun vs w hK => ⟨wants_none rfl, rho_out rfl rfl⟩) ?_
      refine w_move (.inl rfl) (fun vs w hK => ⟨wants_none rfl, rho_out rfl rfl⟩) ?_
      refine w_val [(36, _), (37, _)] (_) (fun vs w hK => ⟨wants_none rfl, rho_in rfl (fv (hK 1 (memE rfl))), rho_in rfl (fv (hK 2 (memE rfl))), trivial⟩) rfl (fun wq hI => by exact run_int_lss rfl rfl rfl rfl) ?_
      refine w_move (.inl rfl) (fun vs w hK => ⟨wants_none rfl, rho_in rfl (fv (hK 3 (memE rfl)))⟩) ?_
      refine w_moveG (.inl rfl) (fun vs w hK => wantsT rfl (fv (hK 4 (memE rfl)))) (fun hG vs w hK => (rho_out rfl rfl)) ?_
      refine w_moveG (.inl rfl) (fun vs w hK => wantsT rfl (fv (hK 4 (memE rfl)))) (fun hG vs w hK => (rho_out rfl rfl)) ?_
      refine w_moveG (.inl rfl) (fun vs w hK => wantsT rfl (fv (hK 4 (memE rfl)))) (fun hG vs w hK => (rho_out rfl rfl)) ?_
      refine w_valG [(41, _), (42, _)] (.pointer (A.map (·.add (i * kI)))) (fun vs w hK => wantsT rfl (fv (hK 4 (memE rfl)))) (fun hG vs w hK => ⟨(rho_in rfl (fvg (hK 6 (memE rfl)) hG)), (rho_in rfl (fvg (hK 7 (memE rfl)) hG)), trivial⟩) rfl (fun hG wq hI => by (have hlt := of_decide_eq_true hG; obtain ⟨ad, e, _⟩ := HR.out.row (by omega); subst e; exact op_index_st stI rfl rfl rfl rfl (by omega))) ?_
      refine w_valG [(43, _)] (.int .i64 (xs.getD i default)) (fun vs w hK => wantsT rfl (fv (hK 4 (memE rfl)))) (fun hG vs w hK => ⟨(rho_in rfl (fvg (hK 8 (memE rfl)) hG)), trivial⟩) rfl (fun hG wq hI => by (have hlt := of_decide_eq_true hG; obtain ⟨ad, e, hc⟩ := (sts_below HR.out (below_then HW.out HW.out.size hI)).row (by omega); subst e; have h := hc i (xs.getD i default) (by rw [List.getD_eq_getElem?_getD, List.getElem?_eq_getElem (by rw [HL.out]; omega)]; rfl) 0 _ rfl; rw [Addr.add_add, Nat.add_zero] at h; exact run_load_cell rfl rfl rfl Try.underlying3 rfl h)) ?_
      refine w_moveG (.inl rfl) (fun vs w hK => wantsT rfl (fv (hK 4 (memE rfl)))) (fun hG vs w hK => (rho_out rfl rfl)) ?_
      refine w_callvG [(40, _), (44, _), (45, _)] _ _ (by decide) (fun vs w hK => wantsT rfl (fv (hK 4 (memE rfl)))) (fun hG vs w hK => ⟨(rho_in rfl (fvg (hK 5 (memE rfl)) hG)), (rho_in rfl (fvg (hK 9 (memE rfl)) hG)), (rho_in rfl (fvg (hK 10 (memE rfl)) hG)), trivial⟩) rfl rfl rfl Try.func25 (by kernel_rfl) rfl (fun hG wq hI => HS.out (xs.getD i default) wq (by have hlt := of_decide_eq_true hG; rw [List.getD_eq_getElem?_getD, List.getElem?_eq_getElem (by rw [HL.out]; omega)]; exact List.getElem_mem _)) (margsC rfl) ?_
      refine w_valG [(46, _)] (_) (fun vs w hK => wantsT rfl (fv (hK 4 (memE rfl)))) (fun hG vs w hK => ⟨(rho_in rfl (fvg (hK 11 (memE rfl)) hG)), trivial⟩) rfl (fun hG wq hI => by exact run_int_eql rfl rfl rfl rfl) ?_
      refine w_and rfl (fun vs w hK => wants_none rfl) (fun vs w hK => (rho_in rfl (fv (hK 4 (memE rfl))))) (fun hB vs w hK => (rho_in rfl (fvg (hK 12 (memE rfl)) hB))) ?_
      refine w_as (c' := .bool T) (congrArg Value.bool HT.out.symm) ?_
      refine w_move (.inr rfl) (fun vs w hK => ⟨wants_none rfl, rho_in rfl (fv (hK 0 (memE rfl)))⟩) ?_
      refine w_move (.inr rfl) (fun vs w hK => ⟨wants_none rfl, rho_in rfl (fv (hK 13 (memE rfl)))⟩) ?_
      refine w_endM [false, false, false, false, false, false, false, false, false, false, false, false, false, false, true, true] rfl rfl rfl (fun vs wq hI hF => ?_)
      simp only [List.reverse_cons, List.reverse_nil, List.nil_append, List.cons_append, finL_val, finL_of, finL_any, finL_app, finL_new, finL_gr, finL_row, finL_box, finL_nil, Act.put, List.setIfInBounds_toArray, List.set_cons_zero, List.set_cons_succ, Nat.reduceAdd, maskF, finL_imp, Bool.not_false, Bool.not_true, Bool.true_and, Bool.false_and]
      have HW2 := Lib.hid (below_then HW.out HW.out.size hI)
      clear hI hF
      go_wp2_with fail
      go_ret2
      exact ⟨rfl, HW2.out⟩
end Go.Proofs.Ytnkeijdpjcclcaa.Mem
-- NumPure
/- Plain laws of numbers as bytes. -/
namespace NumPure

/-- seven bits a byte, the lowest first -/
def put7 (n : Nat) : List Int := if n < 128 then [(n : Int)] else ((n % 128 + 128 : Nat) : Int) :: put7 (n / 128)
termination_by n
decreasing_by omega
theorem put7_small {n : Nat} (h : n < 128) : put7 n = [(n : Int)] := by rw [put7, if_pos h]
theorem put7_big {n : Nat} (h : ¬ n < 128) : put7 n = ((n % 128 + 128 : Nat) : Int) :: put7 (n / 128) := by rw [put7, if_neg h]
theorem put7_pos (n : Nat) : 0 < (put7 n).length := by
  by_cases h : n < 128
  · rw [put7_small h]; simp
  · rw [put7_big h]; simp
theorem put7_len (k n : Nat) (h : n < 128 ^ (k + 1)) : (put7 n).length ≤ k + 1 := by
  induction k generalizing n with
  | zero => rw [put7_small (by omega)]; simp
  | succ k ih =>
    by_cases hn : n < 128
    · rw [put7_small hn]; simp
    · rw [put7_big hn, List.length_cons]
      have := ih (n / 128) (by rw [Nat.pow_succ] at h; omega)
      omega
theorem put7_len10 {n : Nat} (h : n < 18446744073709551616) : (put7 n).length ≤ 10 := put7_len 9 n (by omega)
theorem put7_byte (n : Nat) : ∀ x ∈ put7 n, 0 ≤ x ∧ x < 256 := by
  induction n using Nat.strongRecOn with
  | _ n ih =>
    by_cases h : n < 128
    · rw [put7_small h]
      intro x hx
      rcases List.mem_singleton.1 hx with rfl
      omega
    · rw [put7_big h]
      intro x hx
      rcases List.mem_cons.1 hx with rfl | hx
      · omega
      · exact ih _ (by omega) x hx

/-- the lowest s bytes, the lowest first -/
def le (n s : Nat) : List Int := (List.range s).map fun i => ((n / 256 ^ i % 256 : Nat) : Int)
theorem le_zero (n : Nat) : le n 0 = [] := rfl
theorem le_succ (n s : Nat) : le n (s + 1) = le n s ++ [((n / 256 ^ s % 256 : Nat) : Int)] := by simp [le, List.range_succ]
theorem le_length (n s : Nat) : (le n s).length = s := by simp [le]
theorem le_byte (n s : Nat) : ∀ x ∈ le n s, 0 ≤ x ∧ x < 256 := by
  intro x hx
  obtain ⟨i, _, rfl⟩ := List.mem_map.1 hx
  omega
/-- .. the highest first -/
def be (n s : Nat) : List Int := (le n s).reverse
theorem be_length (n s : Nat) : (be n s).length = s := by simp [be, le_length]
theorem be_byte (n s : Nat) : ∀ x ∈ be n s, 0 ≤ x ∧ x < 256 := fun x hx => le_byte n s x (List.mem_reverse.1 hx)
theorem be_succ (n s : Nat) : be n (s + 1) = ((n / 256 ^ s % 256 : Nat) : Int) :: be n s := by simp [be, le_succ]
/-- the number of bytes, the lowest first -/
def leVal : List Int → Nat
  | [] => 0
  | c :: r => c.toNat + 256 * leVal r
/-- .. the highest first -/
def beVal (l : List Int) : Nat := l.foldl (fun a c => a * 256 + c.toNat) 0
def Byte (l : List Int) : Prop := ∀ x ∈ l, 0 ≤ x ∧ x < 256
theorem Byte.head {c : Int} {r : List Int} (h : Byte (c :: r)) : 0 ≤ c ∧ c < 256 := h c (by simp)
theorem Byte.tail {c : Int} {r : List Int} (h : Byte (c :: r)) : Byte r := fun x hx => h x (by simp [hx])
theorem Byte.take {l : List Int} (h : Byte l) (k : Nat) : Byte (l.take k) := fun x hx => h x (List.mem_of_mem_take hx)
theorem Byte.drop {l : List Int} (h : Byte l) (k : Nat) : Byte (l.drop k) := fun x hx => h x (List.mem_of_mem_drop hx)
theorem Byte.append {l k : List Int} (h : Byte l) (h' : Byte k) : Byte (l ++ k) := fun x hx => by
  rcases List.mem_append.1 hx with hx | hx
  · exact h x hx
  · exact h' x hx
theorem leVal_lt {l : List Int} (h : Byte l) : leVal l < 256 ^ l.length := by
  induction l with
  | nil => simp [leVal]
  | cons c r ih =>
    have h1 := ih h.tail
    have h2 := h.head
    rw [List.length_cons, Nat.pow_succ]
    simp only [leVal]
    omega
theorem leVal_append (l : List Int) (c : Int) : leVal (l ++ [c]) = leVal l + 256 ^ l.length * c.toNat := by
  induction l with
  | nil => simp [leVal]
  | cons x r ih =>
    simp only [List.cons_append, leVal, ih, List.length_cons, Nat.pow_succ]
    rw [Nat.mul_add, ← Nat.mul_assoc, Nat.mul_comm 256 (256 ^ r.length), Nat.add_assoc]
theorem leVal_drop (l : List Int) (k : Nat) (h : k < l.length) : leVal (l.drop k) = (l.getD k 0).toNat + 256 * leVal (l.drop (k + 1)) := by
  rw [List.drop_eq_getElem_cons h]
  simp only [leVal]
  rw [List.getD_eq_getElem?_getD, List.getElem?_eq_getElem h]
  rfl
theorem leVal_le (n s : Nat) (h : n < 256 ^ s) : leVal (le n s) = n := by
  have key : ∀ s, leVal (le n s) = n % 256 ^ s := by
    intro s
    induction s with
    | zero => simp [le_zero, leVal, Nat.mod_one]
    | succ s ih =>
      rw [le_succ, leVal_append, ih, le_length, Int.toNat_natCast, Nat.pow_succ, Nat.mod_mul]
  rw [key s, Nat.mod_eq_of_lt h]
theorem le_leVal (l : List Int) (h : Byte l) : le (leVal l) l.length = l := by
  have hc : ∀ (l : List Int), Byte l → ∀ i, i < l.length → leVal l / 256 ^ i % 256 = (l.getD i 0).toNat := by
    intro l
    induction l with
    | nil => intro _ i hi; simp at hi
    | cons c r ih =>
      intro h i hi
      have h2 := h.head
      cases i with
      | zero => simp [leVal]; omega
      | succ i =>
        rw [Nat.pow_succ, Nat.mul_comm, ← Nat.div_div_eq_div_mul]
        simp only [leVal]
        rw [show (c.toNat + 256 * leVal r) / 256 = leVal r by omega]
        rw [ih h.tail i (by simpa using hi)]
        rfl
  apply List.ext_getElem
  · rw [le_length]
  · intro i h1 h2
    simp only [le, List.getElem_map, List.getElem_range]
    rw [hc l h i h2, List.getD_eq_getElem?_getD, List.getElem?_eq_getElem h2]
    have := h _ (List.getElem_mem h2)
    simp only [Option.getD_some]
    omega
theorem beVal_snoc (l : List Int) (c : Int) : beVal (l ++ [c]) = beVal l * 256 + c.toNat := by simp [beVal, List.foldl_append]
theorem beVal_reverse (l : List Int) : beVal l.reverse = leVal l := by
  induction l with
  | nil => rfl
  | cons c r ih => rw [List.reverse_cons, beVal_snoc, ih]; simp only [leVal]; omega
theorem beVal_eq (l : List Int) : beVal l = leVal l.reverse := by rw [← beVal_reverse, List.reverse_reverse]
theorem beVal_lt {l : List Int} (h : Byte l) : beVal l < 256 ^ l.length := by
  rw [beVal_eq, ← List.length_reverse]
  exact leVal_lt fun x hx => h x (List.mem_reverse.1 hx)
theorem beVal_be (n s : Nat) (h : n < 256 ^ s) : beVal (be n s) = n := by rw [beVal_eq, be, List.reverse_reverse, leVal_le n s h]
theorem be_beVal (l : List Int) (h : Byte l) : be (beVal l) l.length = l := by
  have := le_leVal l.reverse (fun x hx => h x (List.mem_reverse.1 hx))
  rw [List.length_reverse, ← beVal_eq] at this
  rw [be, this, List.reverse_reverse]

/-- as Bitcoin lays a number -/
def compact (n : Nat) : List Int := if n < 253 then [(n : Int)] else if n ≤ 65535 then 253 :: le n 2 else if n ≤ 4294967295 then 254 :: le n 4 else 255 :: le n 8

/-- What Get tells from byte i on: the number, how many bytes, the error. -/
def getAt : Nat → Nat → List Int → Nat × Nat × Nat
  | _, _, [] => (0, 0, 8)
  | i, acc, c :: r =>
    if i = 9 ∧ 1 < c then (0, 0, 2)
    else if c < 128 then (if c = 0 ∧ 0 < i then (0, 0, 2) else (acc + c.toNat % 128 * 2 ^ (7 * i), i + 1, 0))
    else getAt (i + 1) (acc + c.toNat % 128 * 2 ^ (7 * i)) r
def get (l : List Int) : Nat × Nat × Nat := getAt 0 0 l
/-- What Expand tells. -/
def expand (l : List Int) : Nat × Nat × Nat :=
  match l with
  | [] => (0, 0, 8)
  | c :: _ =>
    if c < 253 then (c.toNat, 1, 0)
    else
      let size := 2 * 2 ^ (c.toNat - 253)
      if l.length < 1 + size then (0, 0, 8)
      else
        let n := leVal ((l.take (1 + size)).drop 1)
        if (compact n).length ≠ 1 + size then (0, 0, 2) else (n, 1 + size, 0)
end NumPure
-- Num
/- Contracts of package num: each call's answer by the plain functions of NumPure. -/
namespace Go.Proofs.Ytnkeijdpjcclcaa.Num
set_option linter.unusedVariables false
open Go.Proofs.Ytnkeijdpjcclcaa.Kit Go.RowKit Go.Proofs.YtnkeijdpjcclcaaW.PrintWords Go.Proofs.YtnkeijdpjcclcaaW.PrintLast Go.Proofs.YtnkeijdpjcclcaaW.PrintMore NumPure

theorem infob : (Try.prog.info? 5).map (fun i => (i.zero, i.size, i.bytes)) = some (some (.int .u8 0), 1, 1) := by kernel_rfl
theorem tb : SlTy Try.prog 25 5 (.int .u8 0) 1 := ⟨Try.underlying25, infob, rfl, by decide⟩
abbrev GrB (w : World) (B : Nat) (v : Value) (xs : List Int) : Prop := Gr .u8 5 w B v xs
abbrev OwnB (w : World) (B : Nat) (v : Value) (xs : List Int) : Prop := Own .u8 5 w B v xs
abbrev AppB (w0 w wr : World) (v vr : Value) (xs : List Int) : Prop := App .u8 5 w0 w wr v vr xs
theorem getD_nat {l : List Int} (h : Byte l) (i : Nat) : ∃ a : Nat, l.getD i 0 = (a : Int) ∧ a < 256 := by
  rw [List.getD_eq_getElem?_getD]
  cases hi : l[i]? with
  | none => exact ⟨0, rfl, by omega⟩
  | some x =>
    have := h x (List.mem_of_getElem? hi)
    exact ⟨x.toNat, by simp; omega, by omega⟩
theorem div_pow (n k : Nat) : n / 256 ^ (k + 1) = n / 256 ^ k / 256 := by rw [Nat.pow_succ, Nat.div_div_eq_div_mul]
set_option maxHeartbeats 800000 in
theorem little_any (n s : Nat) (hn : n < 18446744073709551616) (hs : s ≤ 8) (v : Value) (xs : List Int) (w0 w : World) (HO : GrB w w0.heap.size v xs) (HB : Below w0.heap.size w0 w) (hl : xs.length + 8 ≤ 140737488355328) :
    Calls Try.prog 46 #[v, .int .u64 (n : Nat), .int .i64 (s : Nat)] w fun e w' => ∃ v', e = .returned v' ∧ AppB w0 w w' v v' (xs ++ le n s) := by
  have hR0 : AppB w0 w w v v (xs ++ le n 0) := ⟨by rw [le_zero, List.append_nil]; exact HO, HB, Fr.refl _ _⟩
  clear HO HB
  go_enter Try.func46, Try.ntmps46
  go_wp2_with fail
  go_loopw [0, 1, 8] (fun b m i wr => ∃ k : Nat, k ≤ s ∧ i = .int .i64 k ∧ m = .int .u64 ((n / 256 ^ k : Nat) : Int) ∧ AppB w0 w wr v b (xs ++ le n k)) (fun _ _ i _ => s - (intOf i).toNat)
  case atStart => exact ⟨0, Nat.zero_le _, rfl, by simp, hR0⟩
  case round =>
    obtain ⟨k, hk, rfl, rfl, hR⟩ := hrel
    clear hR0
    have hq : n / 256 ^ k < 18446744073709551616 := Nat.lt_of_le_of_lt (Nat.div_le_self _ _) hn
    have hsn := le_succ n k
    have hd := div_pow n k
    generalize n / 256 ^ k = q at hq hsn hd
    have hm : ((q % 256 : Nat) : Int) = (q : Int) % 256 := by omega
    rw [hm] at hsn
    have hd2 : ((n / 256 ^ (k + 1) : Nat) : Int) = (q : Int) / 256 := by rw [hd]; exact Int.natCast_ediv q 256
    have HS := Lib.hid hsn
    have HD := Lib.hid hd2
    have HR := Lib.hid hR
    clear hsn hd hd2 hm hR
    by_cases hlt : k < s
    · go_wp2_with (at_builtin; refine gapp_one tb rfl (.tmp 10) (.tmp 13) rfl rfl rfl HR.out.own HR.out.bel HR.out.bel.size ?cL ?_; (case cL => rw [List.length_append, le_length]; omega); intro v1 w1 ho hb hs1 hf; rw [List.append_assoc, ← HS.out] at ho; have hR1 : AppB w0 w w1 v v1 (xs ++ le n (k + 1)) := ⟨ho, hb, HR.out.fr.trans hf⟩; clear ho hb hs1 hf)
      go_roundw
      case rel => exact ⟨k + 1, by omega, by go_num, by rw [HD.out], hR1⟩
      case measure => simp [intOf]; omega
    · obtain rfl : k = s := by omega
      go_wp2_with fail
      go_ret
      exact ⟨_, rfl, HR.out⟩
set_option maxHeartbeats 800000 in
theorem putLittle_any (n : Nat) (size : Int) (hn : n < 18446744073709551616) (v : Value) (xs : List Int) (w0 w : World) (HO : GrB w w0.heap.size v xs) (HB : Below w0.heap.size w0 w) (hl : xs.length + 8 ≤ 140737488355328) :
    Calls Try.prog 17 #[v, .int .u64 (n : Nat), .int .i64 size] w fun e w' => ∃ v', e = .returned v' ∧ AppB w0 w w' v v' (xs ++ le n (min size.toNat 8)) := by
  have h1 : mx 0 (mn size 8) = ((min size.toNat 8 : Nat) : Int) := by unfold mx mn; split <;> split <;> omega
  have hmin : ∀ W : World, (Builtin.min_ #[3, 3] 3 #[.int .i64 size, .int .i64 8]).run Try.prog W = .ok (.int .i64 (mn size 8)) W := fun W => run_min2 _ _ W
  generalize mn size 8 = m at h1 hmin
  have hmax : ∀ W : World, (Builtin.max_ #[3, 3] 3 #[.int .i64 0, .int .i64 m]).run Try.prog W = .ok (.int .i64 ((min size.toNat 8 : Nat) : Int)) W := fun W => by rw [run_max2, h1]
  have hs : min size.toNat 8 ≤ 8 := by omega
  clear h1
  generalize min size.toNat 8 = s at hmax hs ⊢
  have C := Lib.hid (little_any n s hn hs v xs w0 w HO HB hl)
  clear HO HB
  go_enter Try.func17, Try.ntmps17
  go_wp2_with fail
  refine C.out.mono ?_
  rintro e w' ⟨v', rfl, hA⟩
  have HA := Lib.hid hA
  clear hA
  go_wp2_with fail
  go_ret
  exact ⟨_, rfl, HA.out⟩
theorem or_add (a x c : Nat) (hx : x < 256) (ha : a < 72057594037927936) : Go.bits .or .u64 ((a : Int) * 256) (x : Int) = ((x + 256 * a : Nat) : Int) := by
  have h := u64_or_nat (a * 256) x (by omega) (by omega)
  have h2 : a * 256 ||| x = x + 256 * a := by
    rw [Nat.mul_comm, show (256 : Nat) * a = 2 ^ 8 * a from rfl, ← Nat.two_pow_add_eq_or_of_lt hx]
    omega
  rw [h2] at h
  rw [← h]
  simp
set_option maxHeartbeats 800000 in
theorem little_val (A : Option Addr) (n c : Nat) (l : List Int) (w : World) (hr : Rds .u8 w A n l) (hl : l.length = n) (hn : n ≤ 9223372036854775807) (hb : Byte l) :
    Calls Try.prog 22 #[.slice A n c] w fun e w' => e = .returned (.int .u64 (leVal (l.take 8) : Nat)) ∧ w = w' := by
  have hmin : ∀ W : World, (Builtin.min_ #[3, 3] 3 #[.int .i64 (n : Int), .int .i64 8]).run Try.prog W = .ok (.int .i64 ((min n 8 : Nat) : Int)) W := fun W => by rw [run_min2, show (8 : Int) = ((8 : Nat) : Int) from rfl, mn_nat]
  have hL : (l.take 8).length = min n 8 := by rw [List.length_take, hl]; omega
  have hbt := hb.take 8
  have hg : ∀ k, k < min n 8 → (l.take 8).getD k 0 = l.getD k 0 := fun k hk => by
    rw [List.getD_eq_getElem?_getD, List.getD_eq_getElem?_getD, List.getElem?_take, if_pos (by omega)]
  have hm8 : min n 8 ≤ 8 := by omega
  have hmn : min n 8 ≤ n := by omega
  generalize min n 8 = m at hmin hL hg hm8 hmn
  generalize l.take 8 = t at hL hbt hg ⊢
  have HG := Lib.hid hg
  have HL := Lib.hid hL
  have hz : leVal (t.drop m) = 0 := by rw [List.drop_eq_nil_of_le (by omega)]; rfl
  have HZ := Lib.hid hz
  clear hg hL hl hz
  go_enter Try.func22, Try.ntmps22
  go_wp2_with fail
  go_loop [3, 4] (fun r i => ∃ p : Int, -1 ≤ p ∧ p < m ∧ i = .int .i64 p ∧ r = .int .u64 ((leVal (t.drop (p + 1).toNat) : Nat) : Int)) (fun _ i => (intOf i + 1).toNat)
  case atStart => exact ⟨(m : Int) - 1, by omega, by omega, rfl, by rw [show ((m : Int) - 1 + 1).toNat = m by omega, HZ.out]; rfl⟩
  case round =>
    obtain ⟨p, hp1, hp2, rfl, rfl⟩ := hrel
    by_cases h0 : 0 ≤ p
    · obtain ⟨k, rfl⟩ := Int.eq_ofNat_of_zero_le h0
      obtain ⟨ad, e1, hc⟩ := rds_at 0 hr k (by omega)
      subst e1
      obtain ⟨x, hx, hxl⟩ := getD_nat hb k
      have hd := leVal_drop t k (by rw [HL.out]; omega)
      rw [HG.out k (by omega), hx, Int.toNat_natCast] at hd
      rw [hx] at hc
      have hlt : leVal (t.drop (k + 1)) < 72057594037927936 := by
        have h1 := leVal_lt (hbt.drop (k + 1))
        rw [List.length_drop, HL.out] at h1
        have h2 : 256 ^ (m - (k + 1)) ≤ 256 ^ 7 := Nat.pow_le_pow_right (by omega) (by omega)
        have h3 : 256 ^ 7 = 72057594037927936 := by decide
        omega
      rw [show ((k : Int) + 1).toNat = k + 1 by omega]
      generalize leVal (t.drop (k + 1)) = q at hd hlt ⊢
      have hor := or_add q x 0 hxl hlt
      have HD := Lib.hid hd
      have i0 : (0 : Int) ≤ (k : Int) := Int.natCast_nonneg _
      have i1 : (k : Int) < (n : Int) := by omega
      clear hd
      go_wp2_with fail
      go_round
      case rel => exact ⟨(k : Int) - 1, by omega, by omega, rfl, by rw [show ((k : Int) - 1 + 1).toNat = k by omega, HD.out]; go_num⟩
      case measure => simp [intOf]
    · obtain rfl : p = -1 := by omega
      go_wp2_with fail
      go_ret
      exact ⟨rfl, rfl⟩
theorem beVal_take (t : List Int) (k : Nat) (h : k < t.length) : beVal (t.take (k + 1)) = beVal (t.take k) * 256 + (t.getD k 0).toNat := by
  rw [List.take_succ_eq_append_getElem h, beVal_snoc, List.getD_eq_getElem?_getD, List.getElem?_eq_getElem h]
  rfl
set_option maxHeartbeats 800000 in
theorem big_val (A : Option Addr) (n c : Nat) (l : List Int) (w : World) (hr : Rds .u8 w A n l) (hl : l.length = n) (hn : n ≤ 9223372036854775807) (hc : n ≤ c) (hb : Byte l) :
    Calls Try.prog 60 #[.slice A n c] w fun e w' => e = .returned (.int .u64 (beVal (l.take 8) : Nat)) ∧ w = w' := by
  have hmin : ∀ W : World, (Builtin.min_ #[3, 3] 3 #[.int .i64 (n : Int), .int .i64 8]).run Try.prog W = .ok (.int .i64 ((min n 8 : Nat) : Int)) W := fun W => by rw [run_min2, show (8 : Int) = ((8 : Nat) : Int) from rfl, mn_nat]
  have hL : (l.take 8).length = min n 8 := by rw [List.length_take, hl]; omega
  have hbt := hb.take 8
  have hg : ∀ k, k < min n 8 → (l.take 8).getD k 0 = l.getD k 0 := fun k hk => by
    rw [List.getD_eq_getElem?_getD, List.getD_eq_getElem?_getD, List.getElem?_take, if_pos (by omega)]
  have hm8 : min n 8 ≤ 8 := by omega
  have hmn : min n 8 ≤ n := by omega
  generalize min n 8 = m at hmin hL hg hm8 hmn
  generalize l.take 8 = t at hL hbt hg ⊢
  obtain ⟨hcut, _⟩ := cut_to (enc := Value.int .u8) (h1 := int_one .u8) 0 tb A n c m hmn hc (m : Int) rfl
  have HG := Lib.hid hg
  have HL := Lib.hid hL
  clear hg hL hl
  go_enter Try.func60, Try.ntmps60
  go_wp2_with fail
  go_loop [3, 12] (fun r i => ∃ k : Nat, k ≤ m ∧ i = .int .i64 k ∧ r = .int .u64 ((beVal (t.take k) : Nat) : Int)) (fun _ i => m - (intOf i).toNat)
  case atStart => exact ⟨0, Nat.zero_le _, rfl, rfl⟩
  case round =>
    obtain ⟨k, hk, rfl, rfl⟩ := hrel
    by_cases hlt : k < m
    · obtain ⟨ad, e1, hc⟩ := rds_at 0 hr k (by omega)
      subst e1
      obtain ⟨x, hx, hxl⟩ := getD_nat hb k
      have hd := beVal_take t k (by rw [HL.out]; omega)
      rw [HG.out k hlt, hx, Int.toNat_natCast] at hd
      rw [hx] at hc
      have hlt7 : beVal (t.take k) < 72057594037927936 := by
        have h1 := beVal_lt (hbt.take k)
        have h2 : 256 ^ (t.take k).length ≤ 256 ^ 7 := Nat.pow_le_pow_right (by omega) (by rw [List.length_take, HL.out]; omega)
        have h3 : 256 ^ 7 = 72057594037927936 := by decide
        omega
      generalize beVal (t.take k) = q at hd hlt7 ⊢
      have hor := or_add q x 0 hxl hlt7
      have hd2 : ((beVal (t.take (k + 1)) : Nat) : Int) = (x + 256 * q : Nat) := by rw [hd]; omega
      have HD := Lib.hid hd2
      have i0 : (0 : Int) ≤ (k : Int) := Int.natCast_nonneg _
      have i1 : (k : Int) < (n : Int) := by omega
      clear hd hd2
      go_wp2_with fail
      go_round
      case rel => exact ⟨k + 1, by omega, by go_num, by rw [HD.out]; go_num⟩
      case measure => simp [intOf]; omega
    · obtain rfl : k = m := by omega
      rw [List.take_of_length_le (by rw [HL.out]; omega)]
      go_wp2_with fail
      go_ret
      exact ⟨rfl, rfl⟩
theorem or_128 (m : Nat) : Go.bits .or .u8 ((m : Int) % 256) 128 = ((m % 128 + 128 : Nat) : Int) := by
  have h := u8_or_nat (m % 256) 128 (by omega) (by omega)
  have h2 : m % 256 ||| 128 = m % 128 + 128 := by
    have hx : m % 256 < 256 := by omega
    have key : ∀ x, x < 256 → x ||| 128 = x % 128 + 128 := by decide +kernel
    rw [key _ hx]
    omega
  rw [h2] at h
  rw [← h]
  rfl
structure PutRel (w0 w wr : World) (v b : Value) (xs : List Int) (n m : Nat) : Prop where
  app : ∃ done : List Int, AppB w0 w wr v b (xs ++ done) ∧ done ++ put7 m = put7 n
  lt : m < 18446744073709551616
set_option maxRecDepth 20000 in
set_option maxHeartbeats 800000 in
theorem put_any (n : Nat) (hn : n < 18446744073709551616) (v : Value) (xs : List Int) (w0 w : World) (HO : GrB w w0.heap.size v xs) (HB : Below w0.heap.size w0 w) (hl : xs.length + 10 ≤ 140737488355328) :
    Calls Try.prog 18 #[v, .int .u64 (n : Nat)] w fun e w' => ∃ v', e = .returned v' ∧ AppB w0 w w' v v' (xs ++ put7 n) := by
  have hR0 : PutRel w0 w w v v xs n n := ⟨⟨[], ⟨by rw [List.append_nil]; exact HO, HB, Fr.refl _ _⟩, rfl⟩, hn⟩
  have HN := Lib.hid hn
  clear HO HB hn
  go_enter Try.func18, Try.ntmps18
  go_wp2_with fail
  go_loopw [0, 1] (fun b m wr => ∃ q : Nat, m = .int .u64 (q : Int) ∧ PutRel w0 w wr v b xs n q) (fun _ m _ => (intOf m).toNat)
  case atStart => exact ⟨n, rfl, hR0⟩
  case round =>
    obtain ⟨q, rfl, ⟨done, hA, hd⟩, hq⟩ := hrel
    clear hR0
    have hlen : done.length + (put7 q).length ≤ 10 := by rw [← List.length_append, hd]; exact put7_len10 HN.out
    have hp := put7_pos q
    have HQ := Lib.hid hq
    clear hq
    by_cases hb : q < 128
    · have hm : (q : Int) % 256 = (q : Int) := by omega
      rw [put7_small hb] at hd
      have HD := Lib.hid hd
      have HA := Lib.hid hA
      clear hd hA
      go_wp2_with (at_builtin; refine gapp_one tb rfl (.tmp 15) (.tmp 18) rfl rfl rfl HA.out.own HA.out.bel HA.out.bel.size ?cL ?_; (case cL => rw [List.length_append]; omega); intro v1 w1 ho hb1 hs1 hf; rw [List.append_assoc, HD.out] at ho; have hR1 : AppB w0 w w1 v v1 (xs ++ put7 n) := ⟨ho, hb1, HA.out.fr.trans hf⟩; clear ho hb1 hs1 hf)
      go_ret
      exact ⟨_, rfl, hR1⟩
    · have ho128 := or_128 q
      rw [put7_big hb] at hd
      rw [show done ++ ((q % 128 + 128 : Nat) : Int) :: put7 (q / 128) = (done ++ [((q % 128 + 128 : Nat) : Int)]) ++ put7 (q / 128) by simp] at hd
      have hdv : ((q / 128 : Nat) : Int) = (q : Int) / 128 := Int.natCast_ediv q 128
      generalize hgg : ((q % 128 + 128 : Nat) : Int) = g at ho128 hd
      have HD := Lib.hid hd
      have HA := Lib.hid hA
      have HV := Lib.hid hdv
      clear hd hA hdv hgg
      go_wp2_with (at_builtin; refine gapp_one tb rfl (.tmp 7) (.tmp 11) rfl rfl rfl HA.out.own HA.out.bel HA.out.bel.size ?cL ?_; (case cL => rw [List.length_append]; omega); intro v1 w1 ho hb1 hs1 hf; rw [List.append_assoc] at ho; have hR1 : PutRel w0 w w1 v v1 xs n (q / 128) := ⟨⟨_, ⟨ho, hb1, HA.out.fr.trans hf⟩, HD.out⟩, Nat.lt_of_le_of_lt (Nat.div_le_self _ _) HQ.out⟩; clear ho hb1 hs1 hf)
      go_roundw
      case rel => exact ⟨q / 128, by rw [HV.out], hR1⟩
      case measure => simp [intOf]; omega
theorem be_drop (n s p : Nat) (hp : p < s) : ∃ done : List Int, be n s = done ++ be n (p + 1) ∧ done.length + (p + 1) = s := by
  refine ⟨(be n s).take (s - (p + 1)), ?_, ?_⟩
  · induction s with
    | zero => omega
    | succ s ih =>
      by_cases h : p = s
      · subst h; simp
      · have := ih (by omega)
        rw [be_succ, show s + 1 - (p + 1) = (s - (p + 1)) + 1 by omega, List.take_succ_cons, List.cons_append, ← this]
  · rw [List.length_take, be_length]; omega
structure BigRel (w0 w wr : World) (v b : Value) (xs : List Int) (n s j : Nat) : Prop where
  app : ∃ done : List Int, AppB w0 w wr v b (xs ++ done) ∧ done ++ be n j = be n s
  le : j ≤ s
set_option maxRecDepth 20000 in
set_option maxHeartbeats 800000 in
theorem putBig_any (n : Nat) (size : Int) (hn : n < 18446744073709551616) (v : Value) (xs : List Int) (w0 w : World) (HO : GrB w w0.heap.size v xs) (HB : Below w0.heap.size w0 w) (hl : xs.length + 8 ≤ 140737488355328) :
    Calls Try.prog 71 #[v, .int .u64 (n : Nat), .int .i64 size] w fun e w' => ∃ v', e = .returned v' ∧ AppB w0 w w' v v' (xs ++ be n (min size.toNat 8)) := by
  have h1 : mx 0 (mn size 8) = ((min size.toNat 8 : Nat) : Int) := by unfold mx mn; split <;> split <;> omega
  have hmin : ∀ W : World, (Builtin.min_ #[3, 3] 3 #[.int .i64 size, .int .i64 8]).run Try.prog W = .ok (.int .i64 (mn size 8)) W := fun W => run_min2 _ _ W
  generalize mn size 8 = m at h1 hmin
  have hmax : ∀ W : World, (Builtin.max_ #[3, 3] 3 #[.int .i64 0, .int .i64 m]).run Try.prog W = .ok (.int .i64 ((min size.toNat 8 : Nat) : Int)) W := fun W => by rw [run_max2, h1]
  have hs : min size.toNat 8 ≤ 8 := by omega
  clear h1
  generalize min size.toNat 8 = s at hmax hs ⊢
  have hR0 : BigRel w0 w w v v xs n s s := ⟨⟨[], ⟨by rw [List.append_nil]; exact HO, HB, Fr.refl _ _⟩, rfl⟩, Nat.le_refl _⟩
  have HN := Lib.hid hn
  clear HO HB hn
  go_enter Try.func71, Try.ntmps71
  go_wp2_with fail
  go_loopw [0, 7] (fun b i wr => ∃ p : Int, -1 ≤ p ∧ p < s ∧ i = .int .i64 p ∧ BigRel w0 w wr v b xs n s (p + 1).toNat) (fun _ i _ => (intOf i + 1).toNat)
  case atStart => exact ⟨(s : Int) - 1, by omega, by omega, rfl, by rw [show ((s : Int) - 1 + 1).toNat = s by omega]; exact hR0⟩
  case round =>
    obtain ⟨p, hp1, hp2, rfl, ⟨done, hA, hd⟩, hle⟩ := hrel
    clear hR0
    by_cases h0 : 0 ≤ p
    · obtain ⟨k, rfl⟩ := Int.eq_ofNat_of_zero_le h0
      rw [show ((k : Int) + 1).toNat = k + 1 by omega, be_succ, show done ++ ((n / 256 ^ k % 256 : Nat) : Int) :: be n k = (done ++ [((n / 256 ^ k % 256 : Nat) : Int)]) ++ be n k by simp] at hd
      have hlen : done.length + 1 + k = s := by have := congrArg List.length hd; simp [be_length] at this; omega
      have hsh : (n : Int) / 2 ^ (8 * k) % 256 = ((n / 256 ^ k % 256 : Nat) : Int) := by
        rw [show (256 : Nat) = 2 ^ 8 from rfl, ← Nat.pow_mul]
        simp
      generalize ((n / 256 ^ k % 256 : Nat) : Int) = g at hd hsh
      have HD := Lib.hid hd
      have HA := Lib.hid hA
      have hlen2 : done.length < s := by omega
      clear hd hA hlen
      go_wp2_with (at_builtin; refine gapp_one tb rfl (.tmp 16) (.tmp 22) rfl rfl rfl HA.out.own HA.out.bel HA.out.bel.size ?cL ?_; (case cL => rw [List.length_append]; omega); intro v1 w1 ho hb1 hs1 hf; rw [List.append_assoc] at ho; have hR1 : BigRel w0 w w1 v v1 xs n s k := ⟨⟨_, ⟨ho, hb1, HA.out.fr.trans hf⟩, HD.out⟩, by omega⟩; clear ho hb1 hs1 hf)
      go_roundw
      case rel => exact ⟨(k : Int) - 1, by omega, by omega, rfl, by rw [show ((k : Int) - 1 + 1).toNat = k by omega]; exact hR1⟩
      case measure => simp [intOf]
    · obtain rfl : p = -1 := by omega
      have hd2 : done = be n s := by rw [← hd]; simp [be, le]
      rw [hd2] at hA
      have HA := Lib.hid hA
      clear hA hd hd2
      go_wp2_with fail
      go_ret
      exact ⟨_, rfl, HA.out⟩
theorem and_127 (x : Nat) (h : x < 256) : Go.bits .and .u8 (x : Int) 127 = ((x % 128 : Nat) : Int) := by
  have h1 := u8_and_nat x 127 h (by omega)
  rw [show ((127 : Nat) : Int) = 127 from rfl] at h1
  rw [h1]
  congr 1
  exact Nat.and_two_pow_sub_one_eq_mod x 7
theorem get_step (i acc x : Nat) (hi : i ≤ 9) (h9 : i = 9 → x ≤ 1) (hx : x < 256) (ha : acc < 2 ^ (7 * i)) :
    x % 128 * 2 ^ (7 * i) < 18446744073709551616 ∧ acc + x % 128 * 2 ^ (7 * i) < 2 ^ (7 * (i + 1)) ∧ Go.bits .or .u64 (acc : Int) ((x % 128 * 2 ^ (7 * i) : Nat) : Int) = ((acc + x % 128 * 2 ^ (7 * i) : Nat) : Int) ∧ (i < 9 ∨ acc + x % 128 * 2 ^ (7 * i) < 18446744073709551616) := by
  have hp : 2 ^ (7 * i) ≤ 2 ^ 63 := Nat.pow_le_pow_right (by omega) (by omega)
  have h63 : 2 ^ 63 = 9223372036854775808 := by decide
  have hs : 2 ^ (7 * (i + 1)) = 128 * 2 ^ (7 * i) := by rw [show 7 * (i + 1) = 7 + 7 * i by omega, Nat.pow_add]
  have h1 : x % 128 * 2 ^ (7 * i) < 18446744073709551616 := by
    by_cases h : i = 9
    · have := h9 h
      subst h
      omega
    · have hp2 : 2 ^ (7 * i) ≤ 2 ^ 56 := Nat.pow_le_pow_right (by omega) (by omega)
      have h56 : 2 ^ 56 = 72057594037927936 := by decide
      have h3 : x % 128 * 2 ^ (7 * i) ≤ 127 * 2 ^ (7 * i) := Nat.mul_le_mul_right _ (by omega)
      omega
  have h2 : acc + x % 128 * 2 ^ (7 * i) < 2 ^ (7 * (i + 1)) := by
    have h3 : x % 128 * 2 ^ (7 * i) ≤ 127 * 2 ^ (7 * i) := Nat.mul_le_mul_right _ (by omega)
    omega
  have h4 : acc + x % 128 * 2 ^ (7 * i) < 18446744073709551616 := by
    by_cases h : i = 9
    · have := h9 h
      subst h
      omega
    · have hp2 : 2 ^ (7 * (i + 1)) ≤ 2 ^ 63 := Nat.pow_le_pow_right (by omega) (by omega)
      omega
  refine ⟨h1, h2, ?_, .inr h4⟩
  rw [u64_or_nat acc _ (by omega) h1]
  congr 1
  rw [Nat.mul_comm, Nat.or_comm, ← Nat.two_pow_add_eq_or_of_lt ha]
  omega
theorem wrap_nat (p : Nat) (h : p < 18446744073709551616) : IntKind.u64.wrap (p : Int) = (p : Int) := by
  have h1 : IntKind.u64.wrap (p : Int) = (p : Int) % 18446744073709551616 := by simp [IntKind.wrap, IntKind.bits, IntKind.signed]
  rw [h1]
  omega
/-- What a call answers: three numbers. -/
def three (a b e : Int) : Ending := .returned (.tuple #[.int .u64 a, .int .i64 b, .int .i64 e])
set_option maxRecDepth 20000 in
set_option maxHeartbeats 1600000 in
theorem get_any (A : Option Addr) (n c : Nat) (l : List Int) (w : World) (hr : Rds .u8 w A n l) (hl : l.length = n) (hn : n ≤ 9223372036854775807) (hb : Byte l) :
    Calls Try.prog 67 #[.slice A n c] w fun e w' => e = three ((get l).1 : Nat) ((get l).2.1 : Nat) ((get l).2.2 : Nat) ∧ w = w' := by
  have HL := Lib.hid hl
  clear hl
  go_enter Try.func67, Try.ntmps67
  go_wp2_with fail
  go_loop [5, 10] (fun r i => ∃ k acc : Nat, k ≤ n ∧ k ≤ 9 ∧ i = .int .i64 k ∧ r = .int .u64 (acc : Int) ∧ Hid (acc < 2 ^ (7 * k)) ∧ Hid (getAt k acc (l.drop k) = get l)) (fun _ i => n - (intOf i).toNat)
  case atStart => exact ⟨0, 0, Nat.zero_le _, by omega, rfl, rfl, Lib.hid (by omega), Lib.hid rfl⟩
  case round =>
    obtain ⟨k, acc, hk, hk9, rfl, rfl, HA, HG⟩ := hrel
    by_cases hlt : k < n
    · obtain ⟨ad, e1, hc⟩ := rds_at 0 hr k hlt
      subst e1
      obtain ⟨x, hx, hxl⟩ := getD_nat hb k
      have hg := HG.out
      rw [List.drop_eq_getElem_cons (by rw [HL.out]; exact hlt)] at hg
      have hx2 : l[k]'(by rw [HL.out]; exact hlt) = (x : Int) := by rw [← hx, List.getD_eq_getElem?_getD, List.getElem?_eq_getElem]; rfl
      rw [hx2] at hg
      rw [hx] at hc
      have i0 : (0 : Int) ≤ (k : Int) := Int.natCast_nonneg _
      have i1 : (k : Int) < (n : Int) := by omega
      have HGG := Lib.hid hg
      clear hg hx hx2 HG
      by_cases h9 : k = 9 ∧ 1 < x
      · obtain ⟨h9a, h9b⟩ := h9
        have t1 : ((k : Int) == 9) = true := by simp; omega
        have t2 : decide ((1 : Int) < (x : Int)) = true := by simp; omega
        have hf : get l = (0, 0, 2) := by rw [← HGG.out]; simp only [getAt]; rw [if_pos ⟨h9a, by omega⟩]
        have HF := Lib.hid hf
        clear hf h9a
        go_wp2_with fail
        go_ret3
        exact ⟨by rw [HF.out]; rfl, rfl⟩
      · have hn9 : k = 9 → x ≤ 1 := fun h => by omega
        obtain ⟨g1, g2, g3, _⟩ := get_step k acc x hk9 hn9 hxl HA.out
        have ha := and_127 x hxl
        have hy : x % 128 < 128 := Nat.mod_lt _ (by omega)
        have hxy : x < 128 → x = x % 128 := fun h => by omega
        have HGY : Hid (get l = if (x : Int) < 128 then (if (x : Int) = 0 ∧ 0 < k then (0, 0, 2) else (acc + x % 128 * 2 ^ (7 * k), k + 1, 0)) else getAt (k + 1) (acc + x % 128 * 2 ^ (7 * k)) (l.drop (k + 1))) := Lib.hid (by
          rw [← HGG.out]; simp only [getAt]; rw [if_neg (by omega), Int.toNat_natCast])
        clear HGG
        generalize x % 128 = y at g1 g2 g3 ha hy hxy HGY
        have HXY := Lib.hid hxy
        have hn9' : x ≤ 1 ∨ k ≠ 9 := by omega
        clear hxy hn9 h9
        have hsh : IntKind.u64.wrap ((y : Int) * 2 ^ (7 * k)) = ((y * 2 ^ (7 * k) : Nat) : Int) := by
          rw [show (y : Int) * 2 ^ (7 * k) = ((y * 2 ^ (7 * k) : Nat) : Int) by simp]
          exact wrap_nat _ g1
        generalize y * 2 ^ (7 * k) = P at g1 g2 g3 HGY hsh
        have HB2 := Lib.hid g2
        clear g1 g2
        generalize acc + P = a2 at g3 HB2 HGY
        have i2 : (k : Int) + 1 ≤ 10 := by omega
        have h9 : k = 9 ∧ decide ((1 : Int) < (x : Int)) = false ∨ ((k : Int) == 9) = false := by
          by_cases h : k = 9
          · exact .inl ⟨h, by simp; omega⟩
          · exact .inr (by simp; omega)
        have hx0 : ((x : Int) == 0) = true ∨ ((x : Int) == 0) = false := by cases ((x : Int) == 0) <;> simp
        have hk0 : k = 0 ∨ 0 < k := by omega
        have h128 : x < 128 ∨ (128 ≤ x ∧ k < 9) := by omega
        rcases h128 with h128 | ⟨h128, hk8⟩
        · rcases hx0 with hx0 | hx0
          · have hxz : x = 0 := by simpa using hx0
            rcases hk0 with hk0 | hk0
            · have hf : get l = (a2, 1, 0) := by rw [HGY.out, if_pos (by omega), if_neg (by omega), hk0]
              have HF := Lib.hid hf
              have hk9' : ((k : Int) == 9) = false := by simp; omega
              have hkz : decide ((0 : Int) < (k : Int)) = false := by simp; omega
              have hkz2 : decide (0 < k) = false := by simp; omega
              have hkz3 : ¬ 0 < k := by omega
              have H0 := Lib.hid hk0
              clear hf hxz h9 hk0 hn9'
              go_wp2_with fail
              go_ret3
              exact ⟨by rw [HF.out, H0.out]; rfl, rfl⟩
            · have hf : get l = (0, 0, 2) := by rw [HGY.out, if_pos (by omega), if_pos (by omega)]
              have HF := Lib.hid hf
              have hkz : decide ((0 : Int) < (k : Int)) = true := by simp; omega
              clear hf hxz hn9'
              rcases h9 with ⟨h9, t2⟩ | t1
              · have t1 : ((k : Int) == 9) = true := by simp; omega
                have H9 := Lib.hid h9
                clear h9
                go_wp2_with fail
                go_ret3
                exact ⟨by rw [HF.out]; rfl, rfl⟩
              · go_wp2_with fail
                go_ret3
                exact ⟨by rw [HF.out]; rfl, rfl⟩
          · have hxz : x ≠ 0 := by simpa using hx0
            have hf : get l = (a2, k + 1, 0) := by rw [HGY.out, if_pos (by omega), if_neg (by omega)]
            have HF := Lib.hid hf
            clear hf hxz hn9'
            rcases h9 with ⟨h9, t2⟩ | t1
            · have t1 : ((k : Int) == 9) = true := by simp; omega
              have H9 := Lib.hid h9
              clear h9
              go_wp2_with fail
              go_ret3
              exact ⟨by rw [HF.out]; rfl, rfl⟩
            · go_wp2_with fail
              go_ret3
              exact ⟨by rw [HF.out]; rfl, rfl⟩
        · have HG2 : Hid (getAt (k + 1) a2 (l.drop (k + 1)) = get l) := Lib.hid (by rw [HGY.out, if_neg (by omega)])
          have t1 : ((k : Int) == 9) = false := by simp; omega
          clear h9 hx0 hn9' hk0
          go_wp2_with fail
          go_round
          case rel => exact ⟨k + 1, a2, by omega, by omega, by go_num, rfl, HB2, HG2⟩
          case measure => simp [intOf]; omega
    · obtain rfl : k = n := by omega
      have hf : get l = (0, 0, 8) := by rw [← HG.out, List.drop_eq_nil_of_le (by rw [HL.out]; omega)]; rfl
      have HF := Lib.hid hf
      clear hf
      go_wp2_with fail
      go_ret3
      exact ⟨by rw [HF.out]; rfl, rfl⟩
end Go.Proofs.Ytnkeijdpjcclcaa.Num
-- NumPure2
/- Plain laws of numbers as bytes, second part: what is laid is read as it was; what is read is laid just so. -/
namespace NumPure
set_option linter.unusedVariables false

/-- seven bits a byte, the lowest first -/
def v7 : List Int → Nat
  | [] => 0
  | c :: r => c.toNat % 128 + 128 * v7 r
theorem v7_snoc (t : List Int) (c : Int) : v7 (t ++ [c]) = v7 t + 128 ^ t.length * (c.toNat % 128) := by
  induction t with
  | nil => simp [v7]
  | cons x r ih =>
    simp only [List.cons_append, v7, ih, List.length_cons, Nat.pow_succ]
    rw [Nat.mul_add, ← Nat.mul_assoc, Nat.mul_comm 128 (128 ^ r.length), Nat.add_assoc]
def High (t : List Int) : Prop := ∀ x ∈ t, 128 ≤ x ∧ x < 256
theorem High.head {c : Int} {r : List Int} (h : High (c :: r)) : 128 ≤ c ∧ c < 256 := h c (by simp)
theorem High.tail {c : Int} {r : List Int} (h : High (c :: r)) : High r := fun x hx => h x (by simp [hx])
theorem v7_pos (t : List Int) (c : Int) (hc : 0 < c) (hc2 : c < 128) : 0 < v7 (t ++ [c]) := by
  rw [v7_snoc]
  have : 0 < 128 ^ t.length * (c.toNat % 128) := Nat.mul_pos (Nat.pow_pos (by omega)) (by omega)
  omega
theorem put7_v7 (t : List Int) (c : Int) (ht : High t) (h0 : 0 ≤ c) (h1 : c < 128) (h2 : 0 < c ∨ t = []) : put7 (v7 (t ++ [c])) = t ++ [c] := by
  induction t with
  | nil =>
    simp only [List.nil_append, v7]
    rw [put7_small (by omega)]
    congr 1
    omega
  | cons x r ih =>
    have hc : 0 < c := by rcases h2 with h | h; exact h; cases h
    have hx := ht.head
    have hp := v7_pos r c hc h1
    have ihr := ih ht.tail (.inl hc)
    simp only [List.cons_append, v7]
    rw [put7_big (by omega), show (x.toNat % 128 + 128 * v7 (r ++ [c])) / 128 = v7 (r ++ [c]) by omega, ihr]
    congr 1
    omega
theorem put7_form (n : Nat) : ∃ t c, put7 n = t ++ [c] ∧ High t ∧ 0 ≤ c ∧ c < 128 ∧ (0 < c ∨ t = []) ∧ v7 (t ++ [c]) = n := by
  induction n using Nat.strongRecOn with
  | _ n ih =>
    by_cases h : n < 128
    · exact ⟨[], n, by rw [put7_small h]; rfl, fun x hx => absurd hx List.not_mem_nil, by omega, by omega, .inr rfl, by simp [v7]; omega⟩
    · obtain ⟨t, c, h1, h2, h3, h4, h5, h6⟩ := ih (n / 128) (by omega)
      refine ⟨((n % 128 + 128 : Nat) : Int) :: t, c, by rw [put7_big h, h1]; rfl, ?_, h3, h4, ?_, ?_⟩
      · intro x hx
        rcases List.mem_cons.1 hx with rfl | hx
        · omega
        · exact h2 x hx
      · rcases h5 with h5 | h5
        · exact .inl h5
        · subst h5
          simp only [List.nil_append, v7] at h6
          left
          omega
      · simp only [List.cons_append, v7, h6]
        omega
theorem getAt_high (t : List Int) (r : List Int) (ht : High t) : ∀ i acc, i + t.length ≤ 9 → getAt i acc (t ++ r) = getAt (i + t.length) (acc + 2 ^ (7 * i) * v7 t) r := by
  induction t with
  | nil => intro i acc _; simp [v7]
  | cons x t ih =>
    intro i acc hi
    have hx := ht.head
    rw [List.length_cons] at hi
    rw [List.cons_append]
    simp only [getAt]
    rw [if_neg (by omega), if_neg (by omega), ih ht.tail (i + 1) _ (by omega)]
    congr 1
    · rw [List.length_cons]; omega
    · simp only [v7]
      rw [show 7 * (i + 1) = 7 * i + 7 by omega, Nat.pow_add, Nat.mul_add, Nat.mul_assoc, Nat.add_assoc, Nat.mul_comm (x.toNat % 128)]
/-- What Get tells where the bytes with their highest bit set end. -/
theorem get_at (t : List Int) (c : Int) (r : List Int) (ht : High t) (h9 : t.length ≤ 9) (h0 : 0 ≤ c) : get (t ++ c :: r) =
    if t.length = 9 ∧ 1 < c then (0, 0, 2) else if c < 128 then (if c = 0 ∧ 0 < t.length then (0, 0, 2) else (v7 (t ++ [c]), t.length + 1, 0)) else getAt (t.length + 1) (v7 (t ++ [c])) r := by
  unfold get
  rw [getAt_high t (c :: r) ht 0 0 (by omega)]
  have e : ∀ (a b : Nat), 2 ^ (7 * a) * b = 128 ^ a * b := fun a b => by rw [Nat.pow_mul]
  simp only [getAt, Nat.zero_add, Nat.mul_zero, Nat.pow_zero, Nat.one_mul]
  rw [v7_snoc, ← e, Nat.mul_comm (2 ^ (7 * t.length))]
theorem get_short (t : List Int) (ht : High t) (h9 : t.length ≤ 9) : get t = (0, 0, 8) := by
  unfold get
  have := getAt_high t [] ht 0 0 (by omega)
  rw [List.append_nil] at this
  rw [this]
  rfl
theorem get_put7 {n : Nat} (hn : n < 18446744073709551616) (more : List Int) : get (put7 n ++ more) = (n, (put7 n).length, 0) := by
  obtain ⟨t, c, h1, h2, h3, h4, h5, h6⟩ := put7_form n
  have hl := put7_len10 hn
  rw [h1, List.length_append, List.length_singleton] at hl
  have hc9 : t.length = 9 → c ≤ 1 := by
    intro h
    rw [v7_snoc, h] at h6
    have : (128 : Nat) ^ 9 = 9223372036854775808 := by decide
    rw [this] at h6
    omega
  rw [h1, List.append_assoc, List.singleton_append, get_at t c more h2 (by omega) h3, if_neg (by omega), if_pos h4, if_neg, h6, List.length_append, List.length_singleton]
  rintro ⟨hc, ht⟩
  rcases h5 with h5 | h5
  · omega
  · rw [h5] at ht; simp at ht
/-- What is read is laid just so. -/
theorem put7_read (t : List Int) (c : Int) (r : List Int) (ht : High t) (h0 : 0 ≤ c) (h1 : c < 128) (h2 : ¬ (c = 0 ∧ 0 < t.length)) : put7 (v7 (t ++ [c])) = (t ++ c :: r).take (t.length + 1) := by
  rw [put7_v7 t c ht h0 h1]
  · rw [List.take_append, List.take_of_length_le (by omega)]
    simp
  · by_cases h : 0 < c
    · exact .inl h
    · right
      have : c = 0 := by omega
      cases t with
      | nil => rfl
      | cons x t => exact absurd ⟨this, by simp⟩ h2
theorem v7_lt (t : List Int) : v7 t < 128 ^ t.length := by
  induction t with
  | nil => simp [v7]
  | cons x t ih =>
    rw [List.length_cons, Nat.pow_succ]
    simp only [v7]
    omega
theorem v7_64 (t : List Int) (c : Int) (h9 : t.length ≤ 9) (h1 : 0 ≤ c) (h2 : t.length = 9 → c ≤ 1) : v7 (t ++ [c]) < 18446744073709551616 := by
  rw [v7_snoc]
  have h3 := v7_lt t
  by_cases h : t.length = 9
  · have hc := h2 h
    rw [h] at h3 ⊢
    have : (128 : Nat) ^ 9 = 9223372036854775808 := by decide
    rw [this] at h3 ⊢
    have : c.toNat % 128 ≤ 1 := by omega
    have : 9223372036854775808 * (c.toNat % 128) ≤ 9223372036854775808 * 1 := Nat.mul_le_mul_left _ this
    omega
  · have h4 : 128 ^ t.length ≤ 128 ^ 8 := Nat.pow_le_pow_right (by omega) (by omega)
    have h5 : (128 : Nat) ^ 8 = 72057594037927936 := by decide
    have : 128 ^ t.length * (c.toNat % 128) ≤ 128 ^ t.length * 127 := Nat.mul_le_mul_left _ (by omega)
    omega

theorem compact_byte {n : Nat} : Byte (compact n) := by
  unfold compact
  split
  · intro x hx
    rcases List.mem_singleton.1 hx with rfl
    omega
  · have key : ∀ (s : Nat) (c : Int), 0 ≤ c → c < 256 → Byte (c :: le n s) := by
      intro s c h1 h2 x hx
      rcases List.mem_cons.1 hx with rfl | hx
      · exact ⟨h1, h2⟩
      · exact le_byte n s x hx
    split
    · exact key 2 253 (by omega) (by omega)
    · split
      · exact key 4 254 (by omega) (by omega)
      · exact key 8 255 (by omega) (by omega)
theorem expand_of (c : Int) (s n : Nat) (more : List Int) (hc : ¬ c < 253) (hs : 2 * 2 ^ (c.toNat - 253) = s) (hn : n < 256 ^ s) : expand ((c :: le n s) ++ more) = if (compact n).length ≠ 1 + s then (0, 0, 2) else (n, 1 + s, 0) := by
  unfold expand
  simp only [List.cons_append, if_neg hc, hs]
  rw [if_neg (by simp [le_length]; omega)]
  have : ((c :: (le n s ++ more)).take (1 + s)).drop 1 = le n s := by
    rw [Nat.add_comm, List.take_succ_cons, List.drop_succ_cons, List.drop_zero, List.take_append, le_length, Nat.sub_self, List.take_zero, List.append_nil, List.take_of_length_le (by rw [le_length]; omega)]
  rw [this, leVal_le n s hn]
theorem expand_compact {n : Nat} (hn : n < 18446744073709551616) (more : List Int) : expand (compact n ++ more) = (n, (compact n).length, 0) := by
  by_cases h1 : n < 253
  · have hc : compact n = [(n : Int)] := if_pos h1
    rw [hc]
    unfold expand
    simp only [List.cons_append, List.length_singleton]
    rw [if_pos (by omega), Int.toNat_natCast]
  · by_cases h2 : n ≤ 65535
    · have hc : compact n = 253 :: le n 2 := by unfold compact; rw [if_neg h1, if_pos h2]
      have := expand_of 253 2 n more (by omega) rfl (by omega)
      rw [hc] at this ⊢
      rw [this, if_neg (by simp [le_length]), List.length_cons, le_length]
    · by_cases h3 : n ≤ 4294967295
      · have hc : compact n = 254 :: le n 4 := by unfold compact; rw [if_neg h1, if_neg h2, if_pos h3]
        have := expand_of 254 4 n more (by omega) rfl (by omega)
        rw [hc] at this ⊢
        rw [this, if_neg (by simp [le_length]), List.length_cons, le_length]
      · have hc : compact n = 255 :: le n 8 := by unfold compact; rw [if_neg h1, if_neg h2, if_neg h3]
        have := expand_of 255 8 n more (by omega) rfl (by omega)
        rw [hc] at this ⊢
        rw [this, if_neg (by simp [le_length]), List.length_cons, le_length]
end NumPure
-- NumAid
/- Small facts for the laws of num. -/
namespace Go.Proofs.Ytnkeijdpjcclcaa.Num
set_option linter.unusedVariables false
open Go.Proofs.Ytnkeijdpjcclcaa.Kit Go.RowKit Go.Proofs.YtnkeijdpjcclcaaW.PrintWords Go.Proofs.YtnkeijdpjcclcaaW.PrintLast Go.Proofs.YtnkeijdpjcclcaaW.PrintMore NumPure
theorem put300 : put7 300 = [172, 2] := by rw [put7_big (by omega), put7_small (by omega)]; rfl
theorem compact300 : compact 300 = [253, 44, 1] := by unfold compact; rw [if_neg (by omega), if_pos (by omega)]; rfl
theorem be300 : be 300 3 = [0, 1, 44] := by rfl
theorem high_succ {l : List Int} {k n x : Nat} (h : High (l.take k)) (hk : k < n) (hl : l.length = n) (hx : l.getD k 0 = (x : Int)) (h1 : 128 ≤ x) (h2 : x < 256) : High (l.take (k + 1)) := by
  rw [List.take_succ_eq_append_getElem (by omega)]
  intro y hy
  rcases List.mem_append.1 hy with hy | hy
  · exact h y hy
  · rcases List.mem_singleton.1 hy with rfl
    rw [List.getD_eq_getElem?_getD, List.getElem?_eq_getElem (by omega)] at hx
    simp only [Option.getD_some] at hx
    omega
theorem split_at {l : List Int} {k n : Nat} {x : Int} (hk : k < n) (hl : l.length = n) (hx : l.getD k 0 = x) : l = l.take k ++ x :: l.drop (k + 1) := by
  have h1 : l[k]'(by omega) = x := by rw [← hx, List.getD_eq_getElem?_getD, List.getElem?_eq_getElem (by omega)]; rfl
  have h2 := List.drop_eq_getElem_cons (l := l) (i := k) (by omega)
  rw [h1] at h2
  rw [← h2, List.take_append_drop]
theorem below_drew_then {w w' : World} (h : Below w.drew.heap.size w.drew w') : Below w.heap.size w w' := ⟨h.os, h.tape, h.output, h.size, h.block⟩
theorem byte_wf {l : List Int} (h : ∀ x ∈ l, (Lit.int .u8 x).wf = true) : Byte l := fun x hx => wf_u8 (h x hx)
/-- A constant's bytes, laid and marked. -/
theorem marked (w : World) (B : Nat) (xs : List Int) (n : Nat) (hn : xs.length = n) (hB : B ≤ w.heap.size) (hm : xs.length ≤ 9223372036854775807) :
    GrB (w.alloc (.cells (nums .u8 xs).toArray 5 ((nums .u8 xs).toArray.size, (nums .u8 xs).toArray.size + 1))) B (.slice (some ⟨w.heap.size, 0, none⟩) n n) xs := gr_marked w B _ xs n (by simp [nums, hn]) hn hB hm
theorem conv_marked (w : World) (C : Array Value) (n c : Nat) :
    (convert 25 25 (.slice (some ⟨w.heap.size, 0, none⟩) n c)).run Try.prog (w.alloc (.cells C 5)) = .ok (.slice (some ⟨w.heap.size, 0, none⟩) n c) (w.alloc (.cells C 5 (C.size, C.size + 1))) :=
  Lib.run_convert_bytes_const w 25 5 C n c Try.underlying25 Try.underlying5
end Go.Proofs.Ytnkeijdpjcclcaa.Num
-- Gr2
/- Cells of a row that may be appended to, written. -/
namespace Go.Proofs.Ytnkeijdpjcclcaa.Kit
set_option linter.unusedVariables false
set_option linter.unusedSimpArgs false
open Go.RowKit Go.Proofs.YtnkeijdpjcclcaaW.PrintWords Go.Proofs.YtnkeijdpjcclcaaW.PrintLast Go.Proofs.YtnkeijdpjcclcaaW.PrintMore
section
variable {α : Type} {enc : α → Value} {h1 : ∀ x, (enc x).oneCell' = true} {e : TypeId}
theorem gr_form {w : World} {B : Nat} {v : Value} {xs : List α} (h : GrE enc h1 e w B v xs) (hp : 0 < xs.length) :
    ∃ g n cap, v = .slice (some ⟨g, 0, none⟩) n cap ∧ Hid (xs.length = n) ∧ 0 < n ∧ n ≤ 9223372036854775807 ∧ n ≤ cap ∧ B ≤ g ∧ g < w.heap.size := by
  rcases h with h | ⟨g, cap, cur, fr, hv, k1, k2, k3, k4, k5, k6, k7⟩
  · exact own_form h hp
  · exact ⟨g, _, cap, hv, Lib.hid rfl, hp, by omega, k4, k1, mk_lt k2⟩
theorem gr_cell (d : α) {w : World} {B g n cap : Nat} {xs : List α} (h : GrE enc h1 e w B (.slice (some ⟨g, 0, none⟩) n cap) xs) (k : Nat) (hk : k < n) :
    w.cell? ⟨g, k, none⟩ = some (enc (xs.getD k d)) ∧ w.frozen? ⟨g, k, none⟩ = false := by
  rcases h with h | ⟨g', cap', cur, fr, hv, k1, k2, k3, k4, k5, k6, k7⟩
  · exact own_cell d h k hk
  · injection hv with e1 e2 e3
    injection e1 with e1
    injection e1 with e1
    subst e1 e2 e3
    refine ⟨?_, ?_⟩
    · have := mk_cells (cap := cap) k2 k7 k (enc (xs.getD k d)) (by simp [encs, List.getElem?_eq_getElem hk, List.getD_eq_getElem?_getD])
      rwa [add_plain] at this
    · unfold World.frozen?
      rw [k2]
      obtain ⟨lo, hi⟩ := fr
      simp only
      simp only at k3
      rw [show decide (lo ≤ k) = false from decide_eq_false (by omega)]
      rfl
theorem gr_set {w : World} {B g n cap : Nat} {xs : List α} (h : GrE enc h1 e w B (.slice (some ⟨g, 0, none⟩) n cap) xs) (k : Nat) (x : α) :
    GrE enc h1 e (w.setCell ⟨g, k, none⟩ (enc x)) B (.slice (some ⟨g, 0, none⟩) n cap) (xs.set k x) := by
  rcases h with h | ⟨g', cap', cur, fr, hv, k1, k2, k3, k4, k5, k6, k7⟩
  · exact .inl (own_set h k x)
  · injection hv with e1 e2 e3
    injection e1 with e1
    injection e1 with e1
    subst e1 e2 e3
    refine .inr ⟨g, cap, cur.setIfInBounds k (enc x), fr, by rw [List.length_set], k1, ?_, by simpa using k3, by rw [List.length_set]; exact k4, k5, by simpa using k6, ?_⟩
    · simp [World.setCell, Array.getElem?_modify, k2]
    · rw [List.length_set, Array.toList_setIfInBounds, List.take_set, k7]
      simp [encs]
end
end Go.Proofs.Ytnkeijdpjcclcaa.Kit
-- KeyA
/- Contracts of package key: Compare, Check, Cmp. -/
namespace Go.Proofs.Ytnkeijdpjcclcaa.Key
set_option linter.unusedVariables false
set_option linter.unusedSimpArgs false
open Go.Proofs.Ytnkeijdpjcclcaa.Kit Go.Proofs.Ytnkeijdpjcclcaa.Num Go.RowKit Go.Proofs.YtnkeijdpjcclcaaW.PrintWords Go.Proofs.YtnkeijdpjcclcaaW.PrintLast Go.Proofs.YtnkeijdpjcclcaaW.PrintMore NumPure
/-- The order of texts. -/
def CB (a b : ByteArray) : Int := Lib.compareBytes a.data.toList b.data.toList
theorem cmpstr_any (a b : ByteArray) (w : World) : Calls Try.prog 70 #[.string a, .string b] w fun e w' => e = .returned (.int .i64 (CB a b)) ∧ w = w' := by
  go_enter Try.func70, Try.ntmps70
  go_wp2_with fail
  rw [run_callFunc_extern Try.func75 (by kernel_rfl) (by kernel_rfl) (by kernel_rfl) (e := Extern.BytealgCompare.compare) (by kernel_rfl), Lib.run_compareString]
  simp only [Result.andThen]
  rw [Oper.upon_value]
  go_wp2_with fail
  go_ret
  exact ⟨rfl, rfl⟩
theorem strcmp_any (a b : ByteArray) (w : World) : Calls Try.prog 58 #[.string a, .string b] w fun e w' => e = .returned (.int .i64 (CB a b)) ∧ w = w' := by
  have C1 := Lib.hid (cmpstr_any a b w)
  go_enter Try.func58, Try.ntmps58
  go_wp2_with fail
  refine C1.out.mono ?_
  rintro e w' ⟨rfl, rfl⟩
  go_wp2_with fail
  go_ret
  exact ⟨rfl, rfl⟩
theorem isEmpty_size (V : ByteArray) : V.toList.isEmpty = decide (V.size = 0) := by
  rw [ByteArray.toList_eq]
  have h : V.size = V.data.toList.length := rfl
  rw [h]
  cases V.data.toList <;> simp
/-- An entry. -/
structure Ent where
  key : ByteArray
  seq : Nat
  del : Bool
  val : ByteArray
def Ent.cells (x : Ent) : List Value := [.string x.key, .int .u64 x.seq, .bool x.del, .string x.val]
def Ent.ag (x : Ent) : Value := .agg x.cells.toArray
def Ent.check (x : Ent) : Nat := if x.key.size = 0 ∨ 72057594037927935 < x.seq ∨ (x.del = true ∧ x.val.size ≠ 0) then 1 else if 128 < x.key.size ∨ 65536 < x.val.size then 6 else 0
def Ent.cmp (x y : Ent) : Int := if CB x.key y.key ≠ 0 then CB x.key y.key else if y.seq < x.seq then -1 else if x.seq < y.seq then 1 else 0
def Ent.ok (x : Ent) : Prop := x.seq < 18446744073709551616 ∧ x.key.size ≤ 9223372036854775807 ∧ x.val.size ≤ 9223372036854775807
set_option maxHeartbeats 1600000 in
theorem check_any (x : Ent) (hx : x.ok) (w : World) : Calls Try.prog 31 #[x.ag] w fun e w' => e = .returned (.int .i64 x.check) ∧ Below w.heap.size w w' := by
  obtain ⟨K, s, d, V⟩ := x
  obtain ⟨h1, h2, h3⟩ := hx
  simp only [Ent.ag, Ent.cells] at h1 h2 h3 ⊢
  by_cases g1 : K.size = 0
  · have t1 : ((K.size : Int) == 0) = true := by rw [g1]; rfl
    have H : Hid ((Ent.mk K s d V).check = 1) := Lib.hid (if_pos (.inl g1))
    clear h1
    go_enter Try.func31, Try.ntmps31
    go_wp2_with fail
    go_ret
    exact ⟨by rw [H.out]; rfl, below_alloc (Below.refl _ _) _⟩
  have t1 : ((K.size : Int) == 0) = false := by rw [beq_eq_false_iff_ne]; omega
  by_cases g2 : 72057594037927935 < s
  · have I2 : (72057594037927935 : Int) < (s : Int) ↔ True := ⟨fun _ => trivial, fun _ => by omega⟩
    have H : Hid ((Ent.mk K s d V).check = 1) := Lib.hid (if_pos (.inr (.inl g2)))
    clear h1 g2
    go_enter Try.func31, Try.ntmps31
    go_wp2_with fail
    go_ret
    exact ⟨by rw [H.out]; rfl, below_alloc (Below.refl _ _) _⟩
  have I2 : (72057594037927935 : Int) < (s : Int) ↔ False := ⟨fun h => by omega, fun h => h.elim⟩
  have hve : (!V.toList.isEmpty) = !decide (V.size = 0) := by rw [isEmpty_size V]
  cases d
  · clear hve
    by_cases g5 : 128 < K.size
    · have t5 : decide ((128 : Int) < (K.size : Int)) = true := decide_eq_true (by omega)
      have H : Hid ((Ent.mk K s false V).check = 6) := Lib.hid (by unfold Ent.check; rw [if_neg (fun h => h.elim g1 (fun h => h.elim g2 (fun h => by cases h.1))), if_pos (.inl g5)])
      clear h1 g2
      go_enter Try.func31, Try.ntmps31
      go_wp2_with fail
      go_ret
      exact ⟨by rw [H.out]; rfl, below_alloc (Below.refl _ _) _⟩
    have t5 : decide ((128 : Int) < (K.size : Int)) = false := decide_eq_false (by omega)
    by_cases g6 : 65536 < V.size
    · have t6 : decide ((65536 : Int) < (V.size : Int)) = true := decide_eq_true (by omega)
      have H : Hid ((Ent.mk K s false V).check = 6) := Lib.hid (by unfold Ent.check; rw [if_neg (fun h => h.elim g1 (fun h => h.elim g2 (fun h => by cases h.1))), if_pos (.inr g6)])
      clear h1 g2
      go_enter Try.func31, Try.ntmps31
      go_wp2_with fail
      go_ret
      exact ⟨by rw [H.out]; rfl, below_alloc (Below.refl _ _) _⟩
    have t6 : decide ((65536 : Int) < (V.size : Int)) = false := decide_eq_false (by omega)
    have H : Hid ((Ent.mk K s false V).check = 0) := Lib.hid (by unfold Ent.check; rw [if_neg (fun h => h.elim g1 (fun h => h.elim g2 (fun h => by cases h.1))), if_neg (fun h => h.elim g5 g6)])
    clear h1 g2
    go_enter Try.func31, Try.ntmps31
    go_wp2_with fail
    go_ret
    exact ⟨by rw [H.out]; rfl, below_alloc (Below.refl _ _) _⟩
  · by_cases g3 : V.size = 0
    · rw [decide_eq_true g3] at hve
      by_cases g5 : 128 < K.size
      · have t5 : decide ((128 : Int) < (K.size : Int)) = true := decide_eq_true (by omega)
        have H : Hid ((Ent.mk K s true V).check = 6) := Lib.hid (by unfold Ent.check; rw [if_neg (fun h => h.elim g1 (fun h => h.elim g2 (fun h => h.2 g3))), if_pos (.inl g5)])
        clear h1 g2
        go_enter Try.func31, Try.ntmps31
        go_wp2_with fail
        go_ret
        exact ⟨by rw [H.out]; rfl, below_alloc (Below.refl _ _) _⟩
      have t5 : decide ((128 : Int) < (K.size : Int)) = false := decide_eq_false (by omega)
      by_cases g6 : 65536 < V.size
      · exact absurd g6 (by omega)
      have t6 : decide ((65536 : Int) < (V.size : Int)) = false := decide_eq_false (by omega)
      have H : Hid ((Ent.mk K s true V).check = 0) := Lib.hid (by unfold Ent.check; rw [if_neg (fun h => h.elim g1 (fun h => h.elim g2 (fun h => h.2 g3))), if_neg (fun h => h.elim g5 g6)])
      clear h1 g2
      go_enter Try.func31, Try.ntmps31
      go_wp2_with fail
      go_ret
      exact ⟨by rw [H.out]; rfl, below_alloc (Below.refl _ _) _⟩
    · rw [decide_eq_false g3] at hve
      have H : Hid ((Ent.mk K s true V).check = 1) := Lib.hid (if_pos (.inr (.inr ⟨rfl, g3⟩)))
      clear h1 g2
      go_enter Try.func31, Try.ntmps31
      go_wp2_with fail
      go_ret
      exact ⟨by rw [H.out]; rfl, below_alloc (Below.refl _ _) _⟩
set_option maxHeartbeats 1600000 in
theorem cmp_any (x y : Ent) (hx : x.ok) (hy : y.ok) (w : World) : Calls Try.prog 32 #[x.ag, y.ag] w fun e w' => e = .returned (.int .i64 (x.cmp y)) ∧ Below w.heap.size w w' := by
  obtain ⟨K, s, d, V⟩ := x
  obtain ⟨K2, s2, d2, V2⟩ := y
  obtain ⟨h1, h2, h3⟩ := hx
  obtain ⟨j1, j2, j3⟩ := hy
  simp only [Ent.ag, Ent.cells] at h1 h2 h3 j1 j2 j3 ⊢
  have C1 := Lib.hid (fun w => strcmp_any K K2 w)
  have HB : Hid (∀ a b, Below w.heap.size w ((w.alloc a).alloc b)) := Lib.hid (fun a b => below_alloc (below_alloc (Below.refl _ _) _) _)
  have HC : Hid (Ent.cmp ⟨K, s, d, V⟩ ⟨K2, s2, d2, V2⟩ = if CB K K2 ≠ 0 then CB K K2 else if s2 < s then -1 else if s < s2 then 1 else 0) := Lib.hid rfl
  generalize CB K K2 = q at C1 HC
  clear h1 j1
  by_cases g1 : q = 0
  · subst g1
    rw [if_neg (by simp)] at HC
    rcases Nat.lt_trichotomy s s2 with g | g | g
    · have t1 : decide ((s2 : Int) < (s : Int)) = false := decide_eq_false (by omega)
      have t2 : decide ((s : Int) < (s2 : Int)) = true := decide_eq_true (by omega)
      rw [if_neg (by omega), if_pos g] at HC
      go_enter Try.func32, Try.ntmps32
      go_wp2_with fail
      refine (C1.out _).mono ?_
      rintro e w' ⟨rfl, rfl⟩
      go_wp2_with fail
      go_ret
      exact ⟨by rw [HC.out]; rfl, HB.out _ _⟩
    · subst g
      have t1 : decide ((s : Int) < (s : Int)) = false := by simp
      rw [if_neg (by omega), if_neg (by omega)] at HC
      go_enter Try.func32, Try.ntmps32
      go_wp2_with fail
      refine (C1.out _).mono ?_
      rintro e w' ⟨rfl, rfl⟩
      go_wp2_with fail
      go_ret
      exact ⟨by rw [HC.out]; rfl, HB.out _ _⟩
    · have t1 : decide ((s2 : Int) < (s : Int)) = true := decide_eq_true (by omega)
      rw [if_pos g] at HC
      go_enter Try.func32, Try.ntmps32
      go_wp2_with fail
      refine (C1.out _).mono ?_
      rintro e w' ⟨rfl, rfl⟩
      go_wp2_with fail
      go_ret
      exact ⟨by rw [HC.out]; rfl, HB.out _ _⟩
  · have t1 : (q == 0) = false := by simpa using g1
    rw [if_pos g1] at HC
    go_enter Try.func32, Try.ntmps32
    go_wp2_with fail
    refine (C1.out _).mono ?_
    rintro e w' ⟨rfl, rfl⟩
    go_wp2_with fail
    go_ret
    exact ⟨by rw [HC.out]; rfl, HB.out _ _⟩
end Go.Proofs.Ytnkeijdpjcclcaa.Key
-- KeyD
/- The order of entries: plain laws. -/
namespace Go.Proofs.Ytnkeijdpjcclcaa.Key
set_option linter.unusedVariables false
set_option linter.unusedSimpArgs false
open Go.Proofs.Ytnkeijdpjcclcaa.Kit Go.RowKit
open Lib (compareBytes)
theorem cb_anti : ∀ a b : List UInt8, compareBytes a b = - compareBytes b a
  | [], [] => rfl
  | [], _ :: _ => rfl
  | _ :: _, [] => rfl
  | x :: a, y :: b => by
    have ih := cb_anti a b
    simp only [compareBytes]
    by_cases h1 : x < y
    · have h2 : ¬ y < x := UInt8.lt_asymm h1
      simp [h1, h2]
    · by_cases h2 : y < x
      · simp [h1, h2]
      · simp only [h1, h2, if_false]
        exact ih
theorem cb_zero : ∀ a b : List UInt8, compareBytes a b = 0 ↔ a = b
  | [], [] => by simp [compareBytes]
  | [], _ :: _ => by simp [compareBytes]
  | _ :: _, [] => by simp [compareBytes]
  | x :: a, y :: b => by
    have ih := cb_zero a b
    simp only [compareBytes]
    by_cases h1 : x < y
    · have hne : x ≠ y := UInt8.ne_of_lt h1
      simp [h1, hne]
    · by_cases h2 : y < x
      · have hne : x ≠ y := fun e => by subst e; exact UInt8.lt_irrefl _ h2
        simp [h1, h2, hne]
      · have he : x = y := UInt8.le_antisymm (UInt8.not_lt.1 h2) (UInt8.not_lt.1 h1)
        subst he
        simp only [h1, if_false]
        rw [ih]
        simp
theorem cb_val : ∀ a b : List UInt8, compareBytes a b = -1 ∨ compareBytes a b = 0 ∨ compareBytes a b = 1
  | [], [] => by simp [compareBytes]
  | [], _ :: _ => by simp [compareBytes]
  | _ :: _, [] => by simp [compareBytes]
  | x :: a, y :: b => by
    have ih := cb_val a b
    simp only [compareBytes]
    by_cases h1 : x < y
    · simp [h1]
    · by_cases h2 : y < x
      · simp [h1, h2]
      · simp only [h1, h2, if_false]
        exact ih
theorem cb_trans : ∀ a b c : List UInt8, compareBytes a b = -1 → compareBytes b c = -1 → compareBytes a c = -1
  | [], [], _, h, _ => by simp [compareBytes] at h
  | [], _ :: _, [], _, h => by simp [compareBytes] at h
  | [], _ :: _, _ :: _, _, _ => rfl
  | _ :: _, [], _, h, _ => by simp [compareBytes] at h
  | _ :: _, _ :: _, [], _, h => by simp [compareBytes] at h
  | x :: a, y :: b, z :: c, h1, h2 => by
    have ih := cb_trans a b c
    simp only [compareBytes] at h1 h2 ⊢
    by_cases g1 : x < y
    · by_cases g2 : y < z
      · rw [if_pos (UInt8.lt_trans g1 g2)]
      · rw [if_neg g2] at h2
        by_cases g3 : z < y
        · rw [if_pos g3] at h2; simp at h2
        · have he : y = z := UInt8.le_antisymm (UInt8.not_lt.1 g3) (UInt8.not_lt.1 g2)
          subst he
          rw [if_pos g1]
    · rw [if_neg g1] at h1
      by_cases g3 : y < x
      · rw [if_pos g3] at h1; simp at h1
      · rw [if_neg g3] at h1
        have he : x = y := UInt8.le_antisymm (UInt8.not_lt.1 g3) (UInt8.not_lt.1 g1)
        subst he
        by_cases g2 : x < z
        · rw [if_pos g2]
        · rw [if_neg g2] at h2 ⊢
          by_cases g4 : z < x
          · rw [if_pos g4] at h2; simp at h2
          · rw [if_neg g4] at h2 ⊢
            exact ih h1 h2
theorem cb_less : ∀ a b : List UInt8, Op.bytesLess a b = decide (compareBytes a b < 0)
  | [], [] => by simp [Op.bytesLess, compareBytes]
  | [], _ :: _ => by simp [Op.bytesLess, compareBytes]
  | _ :: _, [] => by simp [Op.bytesLess, compareBytes]
  | x :: a, y :: b => by
    have ih := cb_less a b
    simp only [Op.bytesLess, compareBytes]
    by_cases g1 : x < y
    · simp [g1]
    · by_cases g3 : y < x
      · have hne : x ≠ y := fun e => by subst e; exact UInt8.lt_irrefl _ g3
        simp [g1, g3, hne]
      · have he : x = y := UInt8.le_antisymm (UInt8.not_lt.1 g3) (UInt8.not_lt.1 g1)
        subst he
        simp only [g1, if_false, ih]
        simp
theorem ba_ext {a b : ByteArray} (h : a.data.toList = b.data.toList) : a = b := ByteArray.ext (Array.toList_inj.1 h)
theorem CB_zero (a b : ByteArray) : CB a b = 0 ↔ a = b := by
  unfold CB
  rw [cb_zero]
  exact ⟨ba_ext, fun h => by rw [h]⟩
theorem Ent.cmp_anti (x y : Ent) : y.cmp x = - x.cmp y := by
  have h := cb_anti x.key.data.toList y.key.data.toList
  unfold Ent.cmp CB
  rw [h]
  generalize compareBytes y.key.data.toList x.key.data.toList = q
  by_cases h0 : q = 0
  · subst h0
    simp only [Int.neg_zero, ne_eq, not_true, if_false]
    by_cases g1 : x.seq < y.seq
    · rw [if_pos g1, if_neg (by omega), if_pos g1]
    · by_cases g2 : y.seq < x.seq
      · rw [if_neg g1, if_pos g2, if_pos g2]; rfl
      · rw [if_neg g1, if_neg g2, if_neg g2, if_neg g1]; rfl
  · rw [if_pos h0, if_pos (by omega)]; omega
theorem Ent.cmp_zero (x y : Ent) : x.cmp y = 0 ↔ x.key = y.key ∧ x.seq = y.seq := by
  have h := CB_zero x.key y.key
  unfold Ent.cmp
  by_cases h0 : CB x.key y.key = 0
  · rw [if_neg (by simpa using h0)]
    by_cases g1 : y.seq < x.seq
    · rw [if_pos g1]
      exact ⟨fun e => absurd e (by decide), fun e => by omega⟩
    · by_cases g2 : x.seq < y.seq
      · rw [if_neg g1, if_pos g2]
        exact ⟨fun e => absurd e (by decide), fun e => by omega⟩
      · rw [if_neg g1, if_neg g2]
        exact ⟨fun _ => ⟨h.1 h0, by omega⟩, fun _ => rfl⟩
  · rw [if_pos h0]
    exact ⟨fun e => absurd e h0, fun e => absurd (h.2 e.1) h0⟩
theorem Ent.cmp_key (x y : Ent) (hne : x.key ≠ y.key) : x.cmp y = CB x.key y.key := by
  unfold Ent.cmp
  rw [if_pos (fun h => hne ((CB_zero _ _).1 h))]
theorem Ent.cmp_trans (x y z : Ent) (h1 : x.cmp y < 0) (h2 : y.cmp z < 0) : x.cmp z < 0 := by
  have v1 := cb_val x.key.data.toList y.key.data.toList
  have v2 := cb_val y.key.data.toList z.key.data.toList
  by_cases k1 : x.key = y.key
  · by_cases k2 : y.key = z.key
    · have c1 : CB x.key y.key = 0 := (CB_zero _ _).2 k1
      have c2 : CB y.key z.key = 0 := (CB_zero _ _).2 k2
      have c3 : CB x.key z.key = 0 := (CB_zero _ _).2 (k1.trans k2)
      unfold Ent.cmp at h1 h2 ⊢
      rw [if_neg (by simpa using c1)] at h1
      rw [if_neg (by simpa using c2)] at h2
      rw [if_neg (by simpa using c3)]
      have g1 : y.seq < x.seq := by
        rcases Nat.lt_or_ge y.seq x.seq with g | g
        · exact g
        · rw [if_neg (by omega)] at h1; split at h1 <;> omega
      have g2 : z.seq < y.seq := by
        rcases Nat.lt_or_ge z.seq y.seq with g | g
        · exact g
        · rw [if_neg (by omega)] at h2; split at h2 <;> omega
      rw [if_pos (by omega)]; omega
    · rw [Ent.cmp_key x z (by rw [k1]; exact k2), k1]
      rw [Ent.cmp_key y z k2] at h2
      exact h2
  · rw [Ent.cmp_key x y k1] at h1
    by_cases k2 : y.key = z.key
    · rw [Ent.cmp_key x z (by rw [← k2]; exact k1), ← k2]
      exact h1
    · rw [Ent.cmp_key y z k2] at h2
      have t := cb_trans x.key.data.toList y.key.data.toList z.key.data.toList (by unfold CB at h1; omega) (by unfold CB at h2; omega)
      have k3 : x.key ≠ z.key := fun e => by
        rw [e] at t
        have := (cb_zero z.key.data.toList z.key.data.toList).2 rfl
        omega
      rw [Ent.cmp_key x z k3]
      unfold CB
      omega
theorem Ent.cmp_less (x y : Ent) (hne : x.key ≠ y.key) : Op.bytesLess x.key.toList y.key.toList = decide (x.cmp y < 0) := by
  rw [Ent.cmp_key x y hne, ByteArray.toList_eq, ByteArray.toList_eq, cb_less]
  rfl
theorem Ent.cmp_val (x y : Ent) : -1 ≤ x.cmp y ∧ x.cmp y ≤ 1 := by
  have v1 := cb_val x.key.data.toList y.key.data.toList
  unfold Ent.cmp CB
  split
  · omega
  · split
    · omega
    · split <;> omega
end Go.Proofs.Ytnkeijdpjcclcaa.Key
-- EntO
/- Entries as cells: words of the texts about tables (turned from the key and page texts of this seat). -/
namespace Go.Proofs.Ytnkeijdpjcclcaa.Key
set_option linter.unusedVariables false
set_option linter.unusedSimpArgs false
open Go.Proofs.Ytnkeijdpjcclcaa.Kit Go.Proofs.Ytnkeijdpjcclcaa.Num Go.RowKit Go.Proofs.YtnkeijdpjcclcaaW.PrintWords Go.Proofs.YtnkeijdpjcclcaaW.PrintLast Go.Proofs.YtnkeijdpjcclcaaW.PrintMore NumPure Key
open Go.Proofs.Ytnkeijdpjcclcaa.Kit Go.Proofs.Ytnkeijdpjcclcaa.Num Go.RowKit Go.Proofs.YtnkeijdpjcclcaaW.PrintWords Go.Proofs.YtnkeijdpjcclcaaW.PrintLast Go.Proofs.YtnkeijdpjcclcaaW.PrintMore NumPure
theorem run_int_neg {P : Program} {o : Oper} {l : List (Nat × Value)} {x : Operand} {t : TypeId} {k : IntKind} {a c : Int} {w : World} (ho : o.op = .unOp .neg t x) (hx : lk l x = .int k a) (h : k.wrap (-a) = c) : (execOp (lk l) o).run P w = .ok (.value (.int k c)) w := by
  subst h
  unfold execOp
  simp [ho, hx, Op.unary, Op.intArith]
theorem run_str_eql {P : Program} {o : Oper} {l : List (Nat × Value)} {x y : Operand} {t : TypeId} {m : Nat} {a b : ByteArray} {w : World} (ho : o.op = .binOp .eql t x y m) (hx : lk l x = .string a) (hy : lk l y = .string b) (h : a ≠ b) : (execOp (lk l) o).run P w = .ok (.value (.bool false)) w := by
  unfold execOp
  simp [ho, hx, hy, eqGuard, binOp, Op.stringOp]
  intro e
  apply h
  exact ByteArray.ext (Array.toList_inj.1 (by rw [← ByteArray.toList_eq, ← ByteArray.toList_eq]; exact e))
theorem run_str_lss {P : Program} {o : Oper} {l : List (Nat × Value)} {x y : Operand} {t : TypeId} {m : Nat} {a b : ByteArray} {r : Bool} {w : World} (ho : o.op = .binOp .lss t x y m) (hx : lk l x = .string a) (hy : lk l y = .string b) (h : Op.bytesLess a.toList b.toList = r) : (execOp (lk l) o).run P w = .ok (.value (.bool r)) w := by
  subst h
  unfold execOp
  simp [ho, hx, hy, eqGuard, binOp, Op.stringOp]
theorem run_bool_eql {P : Program} {o : Oper} {l : List (Nat × Value)} {x y : Operand} {t : TypeId} {m : Nat} {a b r : Bool} {w : World} (ho : o.op = .binOp .eql t x y m) (hx : lk l x = .bool a) (hu : P.underlying t = some .bool) (hy : lk l y = .bool b) (h : (a == b) = r) : (execOp (lk l) o).run P w = .ok (.value (.bool r)) w := by
  subst h
  unfold execOp
  simp [ho, hx, hy, eqGuard, binOp, Op.equal]
  unfold Op.maxDepth Op.equalIn
  simp only [Sem.run_bind, run_underlying hu, Sem.run_pure, Result.andThen_ok]
  try rfl
theorem run_bool_neq {P : Program} {o : Oper} {l : List (Nat × Value)} {x y : Operand} {t : TypeId} {m : Nat} {a b r : Bool} {w : World} (ho : o.op = .binOp .neq t x y m) (hx : lk l x = .bool a) (hu : P.underlying t = some .bool) (hy : lk l y = .bool b) (h : (a != b) = r) : (execOp (lk l) o).run P w = .ok (.value (.bool r)) w := by
  subst h
  unfold execOp
  simp [ho, hx, hy, eqGuard, binOp, Op.equal]
  unfold Op.maxDepth Op.equalIn
  simp only [Sem.run_bind, run_underlying hu, Sem.run_pure, Result.andThen_ok]
  try rfl
theorem load_ent {w : World} {g : Nat} {x : Ent} (h : w.heap[g]? = some (.cells x.cells.toArray 61)) : (Instr.loadAt 61 (.pointer (some ⟨g, 0, none⟩))).run Try.prog w = .ok x.ag w :=
  run_loadAt_mid w _ 0 61 x.cells _ (range_block h) Try.underlying61 rfl (by
    show _ = some 4
    kernel_rfl)
theorem cell_ent {w : World} {g i : Nat} {x : Ent} {v : Value} (h : w.heap[g]? = some (.cells x.cells.toArray 61)) (hv : x.cells[i]? = some v) : w.cell? ⟨g, i, none⟩ = some v := by
  simp only [World.cell?, h]
  simpa using hv
def Ent.eqb (a b : Ent) : Bool := decide (a.key = b.key) && (((a.seq : Int) == (b.seq : Int)) && ((a.del == b.del) && decide (a.val = b.val)))
theorem Ent.eqb_iff {a b : Ent} : a.eqb b = true ↔ a = b := by
  obtain ⟨k, s, d, v⟩ := a
  obtain ⟨k2, s2, d2, v2⟩ := b
  simp only [Ent.eqb, Bool.and_eq_true, decide_eq_true_eq, beq_iff_eq, Ent.mk.injEq]
  exact ⟨fun ⟨h1, h2, h3, h4⟩ => ⟨h1, by omega, h3, h4⟩, fun ⟨h1, h2, h3, h4⟩ => ⟨h1, by omega, h3, h4⟩⟩
theorem Ent.eqb_self (a : Ent) : a.eqb a = true := Ent.eqb_iff.2 rfl
theorem toList_beq (a b : ByteArray) : (a.toList == b.toList) = decide (a = b) := by
  rw [Bool.eq_iff_iff, beq_iff_eq, decide_eq_true_iff, ByteArray.toList_eq, ByteArray.toList_eq]
  exact ⟨ba_ext, fun h => by rw [h]⟩
theorem ent_equalIn (d : Nat) (a b : Ent) (w : World) : (Op.equalIn (d + 1 + 1) 61 a.ag b.ag).run Try.prog w = .ok (a.eqb b) w := by
  obtain ⟨k, s, e, v⟩ := a
  obtain ⟨k2, s2, e2, v2⟩ := b
  unfold Ent.eqb Ent.ag Ent.cells
  rw [← toList_beq, ← toList_beq]
  refine eqA_of Try.underlying61 (by kernel_rfl) (eqf_cons rfl ?_ ?_ (run_equalIn_string w d 9 k k2 Try.underlying9) (eqf_cons rfl ?_ ?_ (run_equalIn_int w d 32 .u64 .u64 _ _ Try.underlying32) (eqf_cons rfl ?_ ?_ (run_equalIn_bool' w d 4 e e2 Try.underlying4) (eqf_last rfl ?_ ?_ (run_equalIn_string w d 9 v v2 Try.underlying9)))))
  all_goals go_simp
theorem op_ent_eql {o : Oper} {l : List (Nat × Value)} {x y : Operand} {m : Nat} {a b : Ent} {r : Bool} {w : World} (ho : o.op = .binOp .eql 61 x y m) (hx : lk l x = a.ag) (hy : lk l y = b.ag) (h : a.eqb b = r) : (execOp (lk l) o).run Try.prog w = .ok (.value (.bool r)) w := by
  subst h
  exact op_agg_eql ho hx hy (by kernel_rfl) (ent_equalIn 9998 a b w)
theorem op_ent_neq {o : Oper} {l : List (Nat × Value)} {x y : Operand} {m : Nat} {a b : Ent} {r : Bool} {w : World} (ho : o.op = .binOp .neq 61 x y m) (hx : lk l x = a.ag) (hy : lk l y = b.ag) (h : (!a.eqb b) = r) : (execOp (lk l) o).run Try.prog w = .ok (.value (.bool r)) w := by
  subst h
  exact op_agg_neq ho hx hy (by kernel_rfl) (ent_equalIn 9998 a b w)
def Ent.zero : Ent := ⟨⟨#[]⟩, 0, false, ⟨#[]⟩⟩
theorem check_zero {x : Ent} : x.check = 0 ↔ 0 < x.key.size ∧ x.key.size ≤ 128 ∧ x.seq ≤ 72057594037927935 ∧ (x.del = true → x.val.size = 0) ∧ x.val.size ≤ 65536 := by
  unfold Ent.check
  by_cases h1 : x.key.size = 0 ∨ 72057594037927935 < x.seq ∨ (x.del = true ∧ x.val.size ≠ 0)
  · rw [if_pos h1]
    refine ⟨fun h => absurd h (by decide), fun ⟨a, b, c, d, e⟩ => ?_⟩
    rcases h1 with h | h | ⟨h, h'⟩
    · omega
    · omega
    · exact absurd (d h) h'
  · rw [if_neg h1]
    simp only [not_or, not_and] at h1
    obtain ⟨a, b, c⟩ := h1
    by_cases h2 : 128 < x.key.size ∨ 65536 < x.val.size
    · rw [if_pos h2]
      refine ⟨fun h => absurd h (by decide), fun ⟨_, e, _, _, f⟩ => ?_⟩
      omega
    · rw [if_neg h2]
      refine ⟨fun _ => ⟨by omega, by omega, by omega, fun h => ?_, by omega⟩, fun _ => rfl⟩
      have := c h
      omega
theorem stE : StTy Try.prog 59 61 4 := ⟨Try.underlying59, by kernel_rfl⟩
theorem info61 : (Try.prog.info? 61).map (·.size) = some 4 := by kernel_rfl
instance : Inhabited Ent := ⟨Ent.zero⟩
theorem open_ents {H : Type} {enc : TypeId × Value → H} {w : World} {base m : Nat} {held : Bool} {A : Option Addr} {n c : Nat} {x : DataW H × List MemPlace} (h : DataW.trod enc Try.prog w base (fun _ => true) held m 59 [.slice A n c] = some x) : ∃ xs, Sts Ent.cells 4 w A n xs ∧ n ≤ c ∧ ∀ z ∈ xs, Ent.ok z :=
  open_sts Ent.cells Ent.ok Try.underlying59 (by kernel_rfl) (fun cs m' y hy => by
    obtain ⟨y0, y1, y2, y3, n, _, hl, h0, h1, h2, h3⟩ := Go.Joins.trod_struct4 Try.underlying61 hy
    rw [show Try.prog.cellsOf 61 = 4 by kernel_rfl] at hl
    change DataW.trod enc Try.prog w base _ held n 9 ((cs.drop 0).take (Try.prog.cellsOf 9)) = _ at h0
    change DataW.trod enc Try.prog w base _ held n 32 ((cs.drop 1).take (Try.prog.cellsOf 32)) = _ at h1
    change DataW.trod enc Try.prog w base _ held n 4 ((cs.drop 2).take (Try.prog.cellsOf 4)) = _ at h2
    change DataW.trod enc Try.prog w base _ held n 9 ((cs.drop 3).take (Try.prog.cellsOf 9)) = _ at h3
    rw [show Try.prog.cellsOf 9 = 1 by kernel_rfl] at h0 h3
    rw [show Try.prog.cellsOf 32 = 1 by kernel_rfl] at h1
    rw [show Try.prog.cellsOf 4 = 1 by kernel_rfl] at h2
    obtain ⟨a, e0, _, w0⟩ := DataW.trod_string Try.underlying9 h0
    obtain ⟨b, e1, _, w1⟩ := DataW.trod_int Try.underlying32 h1
    obtain ⟨d, e2, _⟩ := DataW.trod_bool Try.underlying4 h2
    obtain ⟨v, e3, _, w3⟩ := DataW.trod_string Try.underlying9 h3
    obtain ⟨q0, q1⟩ := wf_u64 w1
    obtain ⟨s, rfl⟩ : ∃ s : Nat, b = s := ⟨b.toNat, by omega⟩
    refine ⟨⟨a, s, d, v⟩, ?_, ⟨by show s < _; omega, w0, w3⟩⟩
    have := cut_cons e0 rfl (cut_cons e1 rfl (cut_cons e2 rfl (cut_cons e3 rfl (cut_end hl))))
    rw [List.drop_zero] at this
    exact this) h
end Go.Proofs.Ytnkeijdpjcclcaa.Key
-- EntA
/- slices.Insert of one entry (printed by genent.py out of MemA). -/
namespace Go.Proofs.Ytnkeijdpjcclcaa.Mem
set_option linter.unusedVariables false
set_option linter.unusedSimpArgs false
open Go.Proofs.Ytnkeijdpjcclcaa.Kit Go.Proofs.Ytnkeijdpjcclcaa.Num Go.RowKit Go.Proofs.YtnkeijdpjcclcaaW.PrintWords Go.Proofs.YtnkeijdpjcclcaaW.PrintLast Go.Proofs.YtnkeijdpjcclcaaW.PrintMore NumPure Key
def encE (x : Ent) : List Value := x.cells
def kE : Nat := 4
theorem encE_len (x : Ent) : (encE x).length = kE := rfl
theorem encE_one (x : Ent) : ∀ u ∈ encE x, u.oneCell' = true := by
  intro u hu
  simp only [encE, Ent.cells, List.mem_cons, List.mem_nil_iff, or_false] at hu
  rcases hu with rfl | rfl | rfl | rfl <;> rfl
def zE : Value := .agg #[.string ⟨#[]⟩, .int .u64 0, .bool false, .string ⟨#[]⟩]
theorem etE : EType Try.prog 59 61 kE 48 zE := ⟨Try.underlying59, by kernel_rfl, rfl, by decide⟩
theorem stEn : StTy Try.prog 59 61 kE := etype_st etE
theorem reg_73_1 : RegOk (opsOf Try.f73 1) [[], [], [0, 1]] [] [some 10, some 11, some 12] := regOk (by kernel_rfl)
theorem reg_73_8 : RegOk (opsOf Try.f73 8) [[], [], [0, 1], [], [3], [0, 1, 2, 3, 4]] [] [some 26, some 27, some 28, some 29, some 30, some 31] := regOk (by kernel_rfl)
theorem reg_73_9 : RegOk (opsOf Try.f73 9) [[], [], [0, 1], [], [], [3, 4], [], [3, 4, 5, 6], [0, 1, 2, 3, 4, 5, 6, 7], [0, 1, 2, 3, 4, 5, 6, 7, 8]] [] [some 32, some 33, some 34, some 35, some 36, some 37, some 38, some 39, some 40, some 9] := regOk (by kernel_rfl)
theorem reg_73_10 : RegOk (opsOf Try.f73 10) [[], [], [0, 1], [], [0, 1, 2, 3]] [4] [some 41, some 42, some 43, some 44, some 45] := regOk (by kernel_rfl)
theorem reg_73_11 : RegOk (opsOf Try.f73 11) [[], [], [], [1, 2], [0, 1, 2, 3], [], [], [5, 6], [0, 1, 2, 3, 4, 5, 6, 7]] [8] [some 46, some 47, some 48, some 49, some 50, some 51, some 52, some 53, some 54] := regOk (by kernel_rfl)
theorem reg_73_13 : RegOk (opsOf Try.f73 13) [[], [], [], [1, 2], [0, 1, 2, 3], [0, 1, 2, 3, 4]] [] [some 56, some 57, some 58, some 59, some 60, some 0] := regOk (by kernel_rfl)
theorem reg_73_14 : RegOk (opsOf Try.f73 14) [[], [], [], [], [2, 3], [1, 2, 3, 4], [0, 1, 2, 3, 4, 5], [0, 1, 2, 3, 4, 5, 6]] [] [some 61, some 62, some 63, some 64, some 65, some 66, some 67, some 68] := regOk (by kernel_rfl)
theorem reg_73_15 : RegOk (opsOf Try.f73 15) [[], [], [], [1, 2], [0, 1, 2, 3], [], [], [5, 6], [0, 1, 2, 3, 4, 5, 6, 7]] [8] [some 69, some 70, some 71, some 72, some 73, some 74, some 75, some 76, some 77] := regOk (by kernel_rfl)
theorem reg_73_16 : RegOk (opsOf Try.f73 16) [[], [], [0, 1], [], [0, 1, 2, 3]] [4] [some 78, some 79, some 80, some 81, some 82] := regOk (by kernel_rfl)
set_option maxRecDepth 20000 in
set_option maxHeartbeats 3200000 in
theorem insE_any (v : Value) (xs : List Ent) (i : Nat) (x : Ent) (vb : Nat) (w : World) {B : Nat} (ho : OwnK encE kE 61 w B v xs) (hv : w.heap[vb]? = some (.cells (encE x).toArray 61 (0, 0))) (hne : v.ownBlock ≠ some vb) (hi : i ≤ xs.length) (hB : B ≤ w.heap.size) (hx : xs.length ≤ 1000000) :
    Calls Try.prog 73 #[v, .int .i64 (i : Nat), .slice (some ⟨vb, 0, none⟩) 1 1] w fun e w' => ∃ v1, e = .returned v1 ∧ OwnK encE kE 61 w' B v1 (xs.take i ++ [x] ++ xs.drop i) ∧ Fr w w' v v1 := by
  have HV := Lib.hid hv
  have HO := Lib.hid ho
  have hS1 : Sts encE kE w (some ⟨vb, 0, none⟩) 1 [x] := sts_one encE_len rfl hv
  rcases Nat.lt_or_ge i xs.length with hlt | hge
  · obtain ⟨g, cap, cur, rfl, hBg, hg, hnc, hcm, hcl, hct⟩ := own_block ho (by omega)
    have hgv : g ≠ vb := fun e => hne (by rw [e]; rfl)
    have hA : ((xs.take i).flatMap encE).length = i * kE := by rw [flat_length encE_len, List.length_take, Nat.min_eq_left hi]
    have hD : ((xs.drop i).flatMap encE).length = (xs.length - i) * kE := by rw [flat_length encE_len, List.length_drop]
    have hX : (encE x).length = kE := encE_len x
    have had : i * kE + (xs.length - i) * kE = xs.length * kE := by rw [← Nat.add_mul]; congr 1; omega
    have hc : cur.take (i * kE + (xs.length - i) * kE) = (xs.take i).flatMap encE ++ (xs.drop i).flatMap encE := by rw [had, hct, ← List.flatMap_append, List.take_append_drop]
    have hone : ∀ u ∈ (xs.drop i).flatMap encE, u.oneCell' = true := fun u hu => by
      obtain ⟨y, _, hy⟩ := List.mem_flatMap.1 hu
      exact encE_one y u hy
    have hfin : (xs.take i ++ [x] ++ xs.drop i).flatMap encE = (xs.take i).flatMap encE ++ encE x ++ (xs.drop i).flatMap encE := by simp [List.flatMap_append]
    have hfl : (xs.take i ++ [x] ++ xs.drop i).length = xs.length + 1 := by simp only [List.length_append, List.length_take, List.length_drop, List.length_singleton]; omega
    have hsm : (i + 1) * kE = i * kE + kE := Nat.succ_mul i kE
    have tne : ((i : Int) == (xs.length : Int)) = false := by simp only [beq_eq_false_iff_ne, ne_eq]; omega
    have HA := Lib.hid hA
    have HD := Lib.hid hD
    have HC := Lib.hid hc
    have HONE := Lib.hid hone
    have HFIN := Lib.hid hfin
    have HFL := Lib.hid hfl
    have HSM := Lib.hid hsm
    have HG := Lib.hid hg
    have HCL := Lib.hid hcl
    have HAD := Lib.hid had
    have hpk : 0 < kE := by decide
    clear hA hD hc hone hfin hfl hsm hg hcl had hct ho HO hS1 hv hne hX
    generalize hys : xs.take i ++ [x] ++ xs.drop i = ys at HFIN HFL ⊢
    have hys2 := Lib.hid hys
    clear hys
    generalize (xs.take i).flatMap encE = A at HA HC HFIN
    generalize (xs.drop i).flatMap encE = D at HD HC HFIN HONE
    generalize xs.length = n at *
    have HCUT1 := Lib.hid (cut_lo stEn g n cap i (by omega) (by omega) .i64 (i : Int) rfl)
    rcases Nat.lt_or_ge n cap with hroom | hfull
    · have HCUT0 := Lib.hid (cut_hi stEn (some ⟨g, 0, none⟩) n cap (n + 1) (by omega) .i64 ((n + 1 : Nat) : Int) rfl)
      have HCUT2 := Lib.hid (cut_lo stEn g (n + 1) cap (i + 1) (by omega) (by omega) .i64 ((i + 1 : Nat) : Int) rfl)
      have HCUT3 := Lib.hid (cut_lo stEn g (n + 1) cap i (by omega) (by omega) .i64 (i : Int) rfl)
      have hL : i * kE + (n - i) * kE + kE ≤ cur.length := by
        rw [HAD.out, HCL.out, ← Nat.succ_mul]
        exact Nat.mul_le_mul_right _ (by omega)
      obtain ⟨C1, hC1⟩ : ∃ C1, C1 = cur.take (i * kE + kE) ++ D ++ cur.drop (i * kE + kE + D.length) := ⟨_, rfl⟩
      obtain ⟨C2, hC2⟩ : ∃ C2, C2 = C1.take (i * kE) ++ encE x ++ C1.drop (i * kE + (encE x).length) := ⟨_, rfl⟩
      have HLAY := Lib.hid (lay_room cur A D (encE x) (i * kE) ((n - i) * kE) kE HA.out HD.out (encE_len x) HC.out hL C1 C2 hC1 hC2)
      have HC1 := Lib.hid hC1
      have HC2 := Lib.hid hC2
      have HLL := Lib.hid hL
      clear hC1 hC2 hL
      go_enter Try.func73, Try.ntmps73
      go_upto_region 1 with fail
      refine plain_ (fun wq => Below w.heap.size w wq) (fun _ => True) reg_73_1 rfl inv0 (fun _ _ _ _ => trivial) (Below.refl _ _) trivial ?_
      refine w_move (.inl rfl) (fun vs w hK => ⟨wants_none rfl, rho_out rfl rfl⟩) ?_
      refine w_move (.inl rfl) (fun vs w hK => ⟨wants_none rfl, rho_out rfl rfl⟩) ?_
      refine w_val [(10, _), (11, _)] (_) (fun vs w hK => ⟨wants_none rfl, rho_in rfl (fv (hK 0 (memE rfl))), rho_in rfl (fv (hK 1 (memE rfl))), trivial⟩) rfl (fun wq hI => by exact run_slice_op rfl rfl (HCUT1.out wq)) ?_
      refine w_end rfl rfl rfl (fun vs wq hI hF => ?_)
      simp only [List.reverse_cons, List.reverse_nil, List.nil_append, List.cons_append, finL_val, finL_of, finL_any, finL_app, finL_new, finL_gr, finL_row, finL_box, finL_nil, Act.put, List.setIfInBounds_toArray, List.set_cons_zero, List.set_cons_succ, Nat.reduceAdd]
      have HW1 := Lib.hid hI
      clear hI hF HCUT1
      obtain ⟨w1, rfl⟩ : ∃ w1 : World, w1 = wq := ⟨_, rfl⟩
      go_upto_region 8 with fail
      refine plain_ (fun wq => Below w1.heap.size w1 wq) (fun _ => True) reg_73_8 rfl inv0 (fun _ _ _ _ => trivial) (Below.refl _ _) trivial ?_
      refine w_move (.inl rfl) (fun vs w hK => ⟨wants_none rfl, rho_out rfl rfl⟩) ?_
      refine w_move (.inl rfl) (fun vs w hK => ⟨wants_none rfl, rho_out rfl rfl⟩) ?_
      refine w_val [(26, _), (27, _)] (_) (fun vs w hK => ⟨wants_none rfl, rho_in rfl (fv (hK 0 (memE rfl))), rho_in rfl (fv (hK 1 (memE rfl))), trivial⟩) rfl (fun wq hI => by exact run_int_add (c := ((n + 1 : Nat) : Int)) rfl rfl rfl (by rw [i64_id (by omega) (by omega)]; omega)) ?_
      refine w_move (.inl rfl) (fun vs w hK => ⟨wants_none rfl, rho_out rfl rfl⟩) ?_
      refine w_val [(29, _)] _ (fun vs w hK => ⟨wants_none rfl, rho_in rfl (fv (hK 3 (memE rfl))), trivial⟩) rfl (fun wq hI => by simp only [execOp, Option.map_some, Option.map_none, lk_tmp, lk_const, lkT_cons, ↓reduceIte, Nat.reduceEqDiff]; go_simp; (first | done | rfl)) ?_
      refine w_val [(28, _), (30, _)] (_) (fun vs w hK => ⟨wants_none rfl, rho_in rfl (fv (hK 2 (memE rfl))), rho_in rfl (fv (hK 4 (memE rfl))), trivial⟩) rfl (fun wq hI => by exact run_int_gtr (r := false) rfl rfl rfl (decide_eq_false (by omega))) ?_
      refine w_end rfl rfl rfl (fun vs wq hI hF => ?_)
      simp only [List.reverse_cons, List.reverse_nil, List.nil_append, List.cons_append, finL_val, finL_of, finL_any, finL_app, finL_new, finL_gr, finL_row, finL_box, finL_nil, Act.put, List.setIfInBounds_toArray, List.set_cons_zero, List.set_cons_succ, Nat.reduceAdd]
      have HW2 := Lib.hid (below_then HW1.out HW1.out.size hI)
      clear hI hF HW1
      obtain ⟨w2, rfl⟩ : ∃ w2 : World, w2 = wq := ⟨_, rfl⟩
      have HG2 := Lib.hid (box_stays HG.out HW2.out)
      have HV2 := Lib.hid (box_stays HV.out HW2.out)
      have hcp : cur.length ≠ 0 := by
        rw [HCL.out]
        exact Nat.ne_of_gt (Nat.mul_pos (by omega) hpk)
      go_upto_region 13 with fail
      refine plain_ (fun wq => Below w2.heap.size w2 wq) (fun _ => True) reg_73_13 rfl inv0 (fun _ _ _ _ => trivial) (Below.refl _ _) trivial ?_
      refine w_move (.inl rfl) (fun vs w hK => ⟨wants_none rfl, rho_out rfl rfl⟩) ?_
      refine w_move (.inl rfl) (fun vs w hK => ⟨wants_none rfl, rho_out rfl rfl⟩) ?_
      refine w_move (.inl rfl) (fun vs w hK => ⟨wants_none rfl, rho_out rfl rfl⟩) ?_
      refine w_val [(57, _), (58, _)] (_) (fun vs w hK => ⟨wants_none rfl, rho_in rfl (fv (hK 1 (memE rfl))), rho_in rfl (fv (hK 2 (memE rfl))), trivial⟩) rfl (fun wq hI => by exact run_int_add (c := ((n + 1 : Nat) : Int)) rfl rfl rfl (by rw [i64_id (by omega) (by omega)]; omega)) ?_
      refine w_val [(56, _), (59, _)] (_) (fun vs w hK => ⟨wants_none rfl, rho_in rfl (fv (hK 0 (memE rfl))), rho_in rfl (fv (hK 3 (memE rfl))), trivial⟩) rfl (fun wq hI => by exact run_slice_op rfl rfl (HCUT0.out wq)) ?_
      refine w_move (.inr rfl) (fun vs w hK => ⟨wants_none rfl, rho_in rfl (fv (hK 4 (memE rfl)))⟩) ?_
      refine w_end rfl rfl rfl (fun vs wq hI hF => ?_)
      simp only [List.reverse_cons, List.reverse_nil, List.nil_append, List.cons_append, finL_val, finL_of, finL_any, finL_app, finL_new, finL_gr, finL_row, finL_box, finL_nil, Act.put, List.setIfInBounds_toArray, List.set_cons_zero, List.set_cons_succ, Nat.reduceAdd]
      have HW3 := Lib.hid hI
      clear hI hF HCUT0
      obtain ⟨w3, rfl⟩ : ∃ w3 : World, w3 = wq := ⟨_, rfl⟩
      go_upto_region 14 with fail
      refine plain_ (fun wq => Below w3.heap.size w3 wq) (fun _ => True) reg_73_14 rfl inv0 (fun _ _ _ _ => trivial) (Below.refl _ _) trivial ?_
      refine w_move (.inl rfl) (fun vs w hK => ⟨wants_none rfl, rho_out rfl rfl⟩) ?_
      refine w_move (.inl rfl) (fun vs w hK => ⟨wants_none rfl, rho_out rfl rfl⟩) ?_
      refine w_move (.inl rfl) (fun vs w hK => ⟨wants_none rfl, rho_out rfl rfl⟩) ?_
      refine w_move (.inl rfl) (fun vs w hK => ⟨wants_none rfl, rho_out rfl rfl⟩) ?_
      refine w_val [(63, _), (64, _)] (_) (fun vs w hK => ⟨wants_none rfl, rho_in rfl (fv (hK 2 (memE rfl))), rho_in rfl (fv (hK 3 (memE rfl))), trivial⟩) rfl (fun wq hI => by exact run_int_add (c := ((i + 1 : Nat) : Int)) rfl rfl rfl (by rw [i64_id (by omega) (by omega)]; omega)) ?_
      refine w_val [(62, _), (65, _)] (_) (fun vs w hK => ⟨wants_none rfl, rho_in rfl (fv (hK 1 (memE rfl))), rho_in rfl (fv (hK 4 (memE rfl))), trivial⟩) rfl (fun wq hI => by exact run_slice_op rfl rfl (HCUT2.out wq)) ?_
      refine w_val [(61, _), (66, _)] (.bool false) (fun vs w hK => ⟨wants_none rfl, rho_in rfl (fv (hK 0 (memE rfl))), rho_in rfl (fv (hK 5 (memE rfl))), trivial⟩) rfl (fun wq hI => by exact op_overlaps (tR := 4) stEn rfl Try.func76 (by kernel_rfl) (by kernel_rfl) (by kernel_rfl) (by kernel_rfl) (margs rfl) (Ne.symm hgv) (box_stays HV2.out (below_then HW3.out HW3.out.size hI)) (box_stays HG2.out (below_then HW3.out HW3.out.size hI)) hcp) ?_
      refine w_val [(67, _)] (.bool true) (fun vs w hK => ⟨wants_none rfl, rho_in rfl (fv (hK 6 (memE rfl))), trivial⟩) rfl (fun wq hI => by exact op_not rfl rfl rfl) ?_
      refine w_end rfl rfl rfl (fun vs wq hI hF => ?_)
      simp only [List.reverse_cons, List.reverse_nil, List.nil_append, List.cons_append, finL_val, finL_of, finL_any, finL_app, finL_new, finL_gr, finL_row, finL_box, finL_nil, Act.put, List.setIfInBounds_toArray, List.set_cons_zero, List.set_cons_succ, Nat.reduceAdd]
      have HW4 := Lib.hid (below_then HW3.out HW3.out.size hI)
      clear hI hF HW3
      obtain ⟨w4, rfl⟩ : ∃ w4 : World, w4 = wq := ⟨_, rfl⟩
      have HG4 := Lib.hid (box_stays HG2.out HW4.out)
      have HV4 := Lib.hid (box_stays HV2.out HW4.out)
      have HR4 : Hid (w.grownBy w4 (some g)) := Lib.hid (grown_then (grown_below HW2.out) HW4.out)
      clear HG2 HV2 HW2 HW4
      go_upto_region 15 with fail
      refine draws_ (fun W => w.grownBy W (some g) ∧ W.heap[vb]? = some (.cells (encE x).toArray 61 (0, 0))) (fun W => W.heap[g]? = some (.cells cur.toArray 61 (0, 0))) (by kernel_rfl) reg_73_15 rfl (fun _ _ h k => ⟨grown_then h.1 k, box_stays h.2 k⟩) (fun _ _ h k => box_stays h k) ⟨grown_then HR4.out (below_drew (Below.refl _ _)), HV4.out⟩ HG4.out ?_
      refine w_move (.inl rfl) (fun vs w hK => ⟨wants_none rfl, rho_out rfl rfl⟩) ?_
      refine w_move (.inl rfl) (fun vs w hK => ⟨wants_none rfl, rho_out rfl rfl⟩) ?_
      refine w_move (.inl rfl) (fun vs w hK => ⟨wants_none rfl, rho_out rfl rfl⟩) ?_
      refine w_val [(70, _), (71, _)] (_) (fun vs w hK => ⟨wants_none rfl, rho_in rfl (fv (hK 1 (memE rfl))), rho_in rfl (fv (hK 2 (memE rfl))), trivial⟩) rfl (fun wq hI => by exact run_int_add (c := ((i + 1 : Nat) : Int)) rfl rfl rfl (by rw [i64_id (by omega) (by omega)]; omega)) ?_
      refine w_val [(69, _), (72, _)] (_) (fun vs w hK => ⟨wants_none rfl, rho_in rfl (fv (hK 0 (memE rfl))), rho_in rfl (fv (hK 3 (memE rfl))), trivial⟩) rfl (fun wq hI => by exact run_slice_op rfl rfl (HCUT2.out wq)) ?_
      refine w_move (.inl rfl) (fun vs w hK => ⟨wants_none rfl, rho_out rfl rfl⟩) ?_
      refine w_move (.inl rfl) (fun vs w hK => ⟨wants_none rfl, rho_out rfl rfl⟩) ?_
      refine w_val [(74, _), (75, _)] (_) (fun vs w hK => ⟨wants_none rfl, rho_in rfl (fv (hK 5 (memE rfl))), rho_in rfl (fv (hK 6 (memE rfl))), trivial⟩) rfl (fun wq hI => by exact run_slice_op rfl rfl (HCUT3.out wq)) ?_
      refine w_lin (FW.of (fun _ W => W.heap[g]? = some (.cells C1.toArray 61 (0, 0))) (fun _ _ _ h hb => box_stays h hb)) (by decide) (fun vs wq hI hJ hK => ?_) ?_
      · have hA := hJ (by decide) (by decide)
        have hll := HLL.out
        obtain ⟨w5, hrun, hs5⟩ := copy_run (dl := n + 1 - (i + 1)) (dc := cap - (i + 1)) (sl := n + 1 - i) (sc := cap - i) (o := (i + 1) * kE) (cs := D) stEn hA (by rw [HD.out, nmin_of (r := n - i) (by omega)]) (src_cell hA HA.out HC.out) (by rw [HSM.out, HD.out]; omega) HONE.out 3
        rw [HSM.out, ← HC1.out] at hs5
        exact ob_run [(73, _), (76, _)] (wants_none rfl) ⟨rho_in rfl (fv (hK 4 (memE rfl))), rho_in rfl (fv (hK 7 (memE rfl))), trivial⟩ rfl (run_copy_op rfl rfl rfl hrun) ⟨⟨grown_set hI.1 hs5, hs5.keep hI.2 (Ne.symm hgv)⟩, hs5.at_⟩
      refine w_end rfl rfl rfl (fun vs wq hI hF => ?_)
      simp only [List.reverse_cons, List.reverse_nil, List.nil_append, List.cons_append, finL_val, finL_of, finL_any, finL_app, finL_new, finL_gr, finL_row, finL_box, finL_nil, Act.put, List.setIfInBounds_toArray, List.set_cons_zero, List.set_cons_succ, Nat.reduceAdd]
      have HI5 := Lib.hid hI
      have HG5 : Hid (wq.heap[g]? = some (.cells C1.toArray 61 (0, 0))) := Lib.hid (hF 8 (by decide) rfl)
      clear hI hF HG4 HV4 HR4 HCUT2
      obtain ⟨w5, rfl⟩ : ∃ w5 : World, w5 = wq := ⟨_, rfl⟩
      go_upto_region 16 with fail
      refine plain_ (fun W => w.grownBy W (some g) ∧ W.heap[vb]? = some (.cells (encE x).toArray 61 (0, 0))) (fun W => W.heap[g]? = some (.cells C1.toArray 61 (0, 0))) reg_73_16 rfl (fun _ _ h k => ⟨grown_then h.1 k, box_stays h.2 k⟩) (fun _ _ h k => box_stays h k) HI5.out HG5.out ?_
      refine w_move (.inl rfl) (fun vs w hK => ⟨wants_none rfl, rho_out rfl rfl⟩) ?_
      refine w_move (.inl rfl) (fun vs w hK => ⟨wants_none rfl, rho_out rfl rfl⟩) ?_
      refine w_val [(78, _), (79, _)] (_) (fun vs w hK => ⟨wants_none rfl, rho_in rfl (fv (hK 0 (memE rfl))), rho_in rfl (fv (hK 1 (memE rfl))), trivial⟩) rfl (fun wq hI => by exact run_slice_op rfl rfl (HCUT3.out wq)) ?_
      refine w_move (.inl rfl) (fun vs w hK => ⟨wants_none rfl, rho_out rfl rfl⟩) ?_
      refine w_lin (FW.of (fun _ W => W.heap[g]? = some (.cells C2.toArray 61 (0, 0))) (fun _ _ _ h hb => box_stays h hb)) (by decide) (fun vs wq hI hJ hK => ?_) ?_
      · have hA := hJ (by decide) (by decide)
        have hll := HLL.out
        obtain ⟨w6, hrun, hs6⟩ := copy_run (dl := n + 1 - i) (dc := cap - i) (sl := 1) (sc := 1) (o := i * kE) (cs := encE x) stEn hA (by rw [encE_len, nmin_of (r := 1) (by omega), Nat.one_mul]) (blk_cells hI.2) (by rw [encE_len, HLAY.out.2.1]; omega) (encE_one x) 3
        rw [← HC2.out] at hs6
        exact ob_run [(80, _), (81, _)] (wants_none rfl) ⟨rho_in rfl (fv (hK 2 (memE rfl))), rho_in rfl (fv (hK 3 (memE rfl))), trivial⟩ rfl (run_copy_op rfl rfl rfl hrun) ⟨⟨grown_set hI.1 hs6, hs6.keep hI.2 (Ne.symm hgv)⟩, hs6.at_⟩
      refine w_end rfl rfl rfl (fun vs wq hI hF => ?_)
      simp only [List.reverse_cons, List.reverse_nil, List.nil_append, List.cons_append, finL_val, finL_of, finL_any, finL_app, finL_new, finL_gr, finL_row, finL_box, finL_nil, Act.put, List.setIfInBounds_toArray, List.set_cons_zero, List.set_cons_succ, Nat.reduceAdd]
      have HI6 := Lib.hid hI.1
      have HG6 : Hid (wq.heap[g]? = some (.cells C2.toArray 61 (0, 0))) := Lib.hid (hF 4 (by decide) rfl)
      clear hI hF HI5 HG5 HCUT3
      go_wp2_with fail
      go_ret
      refine ⟨_, rfl, ?_, HI6.out, .inl rfl⟩
      have h := own_cells (enc := encE) (k := kE) (e := 61) (cap := cap) (B := B) (ys := ys) (R := cur.drop (i * kE + kE + (n - i) * kE)) encE_len (by rw [HFIN.out, ← HLAY.out.1]; exact HG6.out) (by rw [HFIN.out, ← HLAY.out.1, HLAY.out.2.2, HCL.out]) (by rw [HFL.out]; omega) hcm hBg
      rw [HFL.out] at h
      exact h
    · obtain rfl : n = cap := by omega
      have HCUT0 := Lib.hid (cut_hi stEn (some ⟨g, 0, none⟩) n n i (by omega) .i64 (i : Int) rfl)
      go_enter Try.func73, Try.ntmps73
      go_upto_region 1 with fail
      refine plain_ (fun wq => Below w.heap.size w wq) (fun _ => True) reg_73_1 rfl inv0 (fun _ _ _ _ => trivial) (Below.refl _ _) trivial ?_
      refine w_move (.inl rfl) (fun vs w hK => ⟨wants_none rfl, rho_out rfl rfl⟩) ?_
      refine w_move (.inl rfl) (fun vs w hK => ⟨wants_none rfl, rho_out rfl rfl⟩) ?_
      refine w_val [(10, _), (11, _)] (_) (fun vs w hK => ⟨wants_none rfl, rho_in rfl (fv (hK 0 (memE rfl))), rho_in rfl (fv (hK 1 (memE rfl))), trivial⟩) rfl (fun wq hI => by exact run_slice_op rfl rfl (HCUT1.out wq)) ?_
      refine w_end rfl rfl rfl (fun vs wq hI hF => ?_)
      simp only [List.reverse_cons, List.reverse_nil, List.nil_append, List.cons_append, finL_val, finL_of, finL_any, finL_app, finL_new, finL_gr, finL_row, finL_box, finL_nil, Act.put, List.setIfInBounds_toArray, List.set_cons_zero, List.set_cons_succ, Nat.reduceAdd]
      have HW1 := Lib.hid hI
      clear hI hF
      obtain ⟨w1, rfl⟩ : ∃ w1 : World, w1 = wq := ⟨_, rfl⟩
      go_upto_region 8 with fail
      refine plain_ (fun wq => Below w1.heap.size w1 wq) (fun _ => True) reg_73_8 rfl inv0 (fun _ _ _ _ => trivial) (Below.refl _ _) trivial ?_
      refine w_move (.inl rfl) (fun vs w hK => ⟨wants_none rfl, rho_out rfl rfl⟩) ?_
      refine w_move (.inl rfl) (fun vs w hK => ⟨wants_none rfl, rho_out rfl rfl⟩) ?_
      refine w_val [(26, _), (27, _)] (_) (fun vs w hK => ⟨wants_none rfl, rho_in rfl (fv (hK 0 (memE rfl))), rho_in rfl (fv (hK 1 (memE rfl))), trivial⟩) rfl (fun wq hI => by exact run_int_add (c := ((n + 1 : Nat) : Int)) rfl rfl rfl (by rw [i64_id (by omega) (by omega)]; omega)) ?_
      refine w_move (.inl rfl) (fun vs w hK => ⟨wants_none rfl, rho_out rfl rfl⟩) ?_
      refine w_val [(29, _)] _ (fun vs w hK => ⟨wants_none rfl, rho_in rfl (fv (hK 3 (memE rfl))), trivial⟩) rfl (fun wq hI => by simp only [execOp, Option.map_some, Option.map_none, lk_tmp, lk_const, lkT_cons, ↓reduceIte, Nat.reduceEqDiff]; go_simp; (first | done | rfl)) ?_
      refine w_val [(28, _), (30, _)] (_) (fun vs w hK => ⟨wants_none rfl, rho_in rfl (fv (hK 2 (memE rfl))), rho_in rfl (fv (hK 4 (memE rfl))), trivial⟩) rfl (fun wq hI => by exact run_int_gtr (r := true) rfl rfl rfl (decide_eq_true (by omega))) ?_
      refine w_end rfl rfl rfl (fun vs wq hI hF => ?_)
      simp only [List.reverse_cons, List.reverse_nil, List.nil_append, List.cons_append, finL_val, finL_of, finL_any, finL_app, finL_new, finL_gr, finL_row, finL_box, finL_nil, Act.put, List.setIfInBounds_toArray, List.set_cons_zero, List.set_cons_succ, Nat.reduceAdd]
      have HW2 := Lib.hid (below_then HW1.out HW1.out.size hI)
      clear hI hF HW1
      obtain ⟨w2, rfl⟩ : ∃ w2 : World, w2 = wq := ⟨_, rfl⟩
      have HTA : Hid (cur.take (i * kE) = A) := Lib.hid (by
        have h := congrArg (List.take (i * kE)) HC.out
        rw [List.take_take, Nat.min_eq_left (by omega)] at h
        rw [h, ← HA.out, List.take_left])
      go_upto_region 9 with fail
      refine plain_ (fun W => Below w.heap.size w W) (fun _ => True) reg_73_9 rfl inv0 (fun _ _ _ _ => trivial) HW2.out trivial ?_
      refine w_move (.inl rfl) (fun vs w hK => ⟨wants_none rfl, rho_out rfl rfl⟩) ?_
      refine w_move (.inl rfl) (fun vs w hK => ⟨wants_none rfl, rho_out rfl rfl⟩) ?_
      refine w_val [(32, _), (33, _)] (_) (fun vs w hK => ⟨wants_none rfl, rho_in rfl (fv (hK 0 (memE rfl))), rho_in rfl (fv (hK 1 (memE rfl))), trivial⟩) rfl (fun wq hI => by exact run_slice_op rfl rfl (HCUT0.out wq)) ?_
      refine w_move (.inl rfl) (fun vs w hK => ⟨wants_none rfl, rho_out rfl rfl⟩) ?_
      refine w_move (.inl rfl) (fun vs w hK => ⟨wants_none rfl, rho_out rfl rfl⟩) ?_
      refine w_val [(35, _), (36, _)] (_) (fun vs w hK => ⟨wants_none rfl, rho_in rfl (fv (hK 3 (memE rfl))), rho_in rfl (fv (hK 4 (memE rfl))), trivial⟩) rfl (fun wq hI => by exact run_int_add (c := ((n + 1 : Nat) : Int)) rfl rfl rfl (by rw [i64_id (by omega) (by omega)]; omega)) ?_
      refine w_move (.inl rfl) (fun vs w hK => ⟨wants_none rfl, rho_out rfl rfl⟩) ?_
      refine w_val [(37, _), (38, _)] (_) (fun vs w hK => ⟨wants_none rfl, rho_in rfl (fv (hK 5 (memE rfl))), rho_in rfl (fv (hK 6 (memE rfl))), trivial⟩) rfl (fun wq hI => by exact run_int_sub (c := ((n + 1 - i : Nat) : Int)) rfl rfl rfl (by rw [i64_id (by omega) (by omega)]; omega)) ?_
      refine w_any (FW.of (fun v W => ∃ (b cap' : Nat) (rest : List Value), v = .slice (some ⟨b, 0, none⟩) (n + 1) cap' ∧ w.heap.size ≤ b ∧ n + 1 ≤ cap' ∧ cap' ≤ maxLen ∧ rest.length = (cap' - i) * kE ∧ W.heap[b]? = some (.cells (A ++ rest).toArray 61 (0, 0))) (fun _ _ _ h hb => by obtain ⟨b, cap', rest, h1, h2, h3, h4, h5, h6⟩ := h; exact ⟨b, cap', rest, h1, h2, h3, h4, h5, box_stays h6 hb⟩)) (by decide) (fun vs wq hI hK => ?_) ?_
      · obtain ⟨w5, cap', rest, hrun, hb5, h1, h2, h3, h4, _⟩ := zeros_run (i := i) (m := n + 1 - i) (kq := .i64) etE Try.underlying3 (box_stays HG.out hI) HCL.out hi (by omega) (by omega) (by omega) (by simp only [maxLen]; omega) 59
        rw [show i + (n + 1 - i) = n + 1 by omega] at hrun h1
        rw [HTA.out] at h4
        exact ob_run [(34, _), (39, _)] (wants_none rfl) ⟨rho_in rfl (fv (hK 2 (memE rfl))), rho_in rfl (fv (hK 7 (memE rfl))), trivial⟩ rfl (run_append_op rfl rfl rfl hrun) ⟨hb5, _, cap', rest, rfl, hI.size, h1, h2, h3, h4⟩
      refine w_any (FW.of (fun v W => ∃ (b cap' : Nat) (rest : List Value), v = .slice (some ⟨b, 0, none⟩) (n + 1) cap' ∧ w.heap.size ≤ b ∧ n + 1 ≤ cap' ∧ cap' ≤ maxLen ∧ rest.length = (cap' - i) * kE ∧ W.heap[b]? = some (.cells (A ++ rest).toArray 61 (0, 0))) (fun _ _ _ h hb => by obtain ⟨b, cap', rest, h1, h2, h3, h4, h5, h6⟩ := h; exact ⟨b, cap', rest, h1, h2, h3, h4, h5, box_stays h6 hb⟩)) (by decide) (fun vs wq hI hK => ?_) ?_
      · exact ob_copy (.inr rfl) (wants_none rfl) (rho_in rfl rfl) ⟨Below.refl _ _, hK 8 (memE rfl)⟩
      refine w_end rfl rfl rfl (fun vs wq hI hF => ?_)
      simp only [List.reverse_cons, List.reverse_nil, List.nil_append, List.cons_append, finL_val, finL_of, finL_any, finL_app, finL_new, finL_gr, finL_row, finL_box, finL_nil, Act.put, List.setIfInBounds_toArray, List.set_cons_zero, List.set_cons_succ, Nat.reduceAdd]
      obtain ⟨b, cap', rest, e9, hwb, hc1, hc2, hrl, hb9⟩ : ∃ (b cap' : Nat) (rest : List Value), vs 9 = .slice (some ⟨b, 0, none⟩) (n + 1) cap' ∧ w.heap.size ≤ b ∧ n + 1 ≤ cap' ∧ cap' ≤ maxLen ∧ rest.length = (cap' - i) * kE ∧ wq.heap[b]? = some (.cells (A ++ rest).toArray 61 (0, 0)) := hF 9 (by decide) rfl
      rw [e9]
      have HW4 := Lib.hid hI
      have HB9 := Lib.hid hb9
      have HRL := Lib.hid hrl
      clear hI hF e9 hb9 hrl HW2 HCUT0
      obtain ⟨w4, rfl⟩ : ∃ w4 : World, w4 = wq := ⟨_, rfl⟩
      have hLL : kE + (n - i) * kE ≤ (cap' - i) * kE := by
        have h1 := Nat.mul_le_mul_right kE (show 1 + (n - i) ≤ cap' - i by omega)
        rw [Nat.add_mul, Nat.one_mul] at h1
        exact h1
      obtain ⟨D1, hD1⟩ : ∃ D1, D1 = (A ++ rest).take (i * kE) ++ encE x ++ (A ++ rest).drop (i * kE + (encE x).length) := ⟨_, rfl⟩
      obtain ⟨D2, hD2⟩ : ∃ D2, D2 = D1.take (i * kE + kE) ++ D ++ D1.drop (i * kE + kE + D.length) := ⟨_, rfl⟩
      have HLAY := Lib.hid (lay_grow A rest (encE x) D (i * kE) ((n - i) * kE) kE ((cap' - i) * kE) HA.out HD.out (encE_len x) HRL.out hLL D1 D2 hD1 hD2)
      have HD1 := Lib.hid hD1
      have HD2 := Lib.hid hD2
      have HLL := Lib.hid hLL
      have hcap : i * kE + (cap' - i) * kE = cap' * kE := by rw [← Nat.add_mul]; congr 1; omega
      have HCAP := Lib.hid hcap
      clear hD1 hD2 hLL hcap
      have HCUT2 := Lib.hid (cut_lo stEn b (n + 1) cap' i (by omega) (by omega) .i64 (i : Int) rfl)
      have HCUT3 := Lib.hid (cut_lo stEn b (n + 1) cap' (i + 1) (by omega) (by omega) .i64 ((i + 1 : Nat) : Int) rfl)
      go_upto_region 10 with fail
      refine plain_ (fun W => Below w.heap.size w W) (fun W => W.heap[b]? = some (.cells (A ++ rest).toArray 61 (0, 0))) reg_73_10 rfl inv0 (fun _ _ h k => box_stays h k) HW4.out HB9.out ?_
      refine w_move (.inl rfl) (fun vs w hK => ⟨wants_none rfl, rho_out rfl rfl⟩) ?_
      refine w_move (.inl rfl) (fun vs w hK => ⟨wants_none rfl, rho_out rfl rfl⟩) ?_
      refine w_val [(41, _), (42, _)] (_) (fun vs w hK => ⟨wants_none rfl, rho_in rfl (fv (hK 0 (memE rfl))), rho_in rfl (fv (hK 1 (memE rfl))), trivial⟩) rfl (fun wq hI => by exact run_slice_op rfl rfl (HCUT2.out wq)) ?_
      refine w_move (.inl rfl) (fun vs w hK => ⟨wants_none rfl, rho_out rfl rfl⟩) ?_
      refine w_lin (FW.of (fun _ W => W.heap[b]? = some (.cells D1.toArray 61 (0, 0))) (fun _ _ _ h hb => box_stays h hb)) (by decide) (fun vs wq hI hJ hK => ?_) ?_
      · have hA := hJ (by decide) (by decide)
        have hll := HLL.out
        obtain ⟨w6, hrun, hs6⟩ := copy_run (dl := n + 1 - i) (dc := cap' - i) (sl := 1) (sc := 1) (o := i * kE) (cs := encE x) stEn hA (by rw [encE_len, nmin_of (r := 1) (by omega), Nat.one_mul]) (blk_cells (box_stays HV.out hI)) (by rw [encE_len, List.length_append, HA.out, HRL.out]; omega) (encE_one x) 3
        rw [← HD1.out] at hs6
        exact ob_run [(43, _), (44, _)] (wants_none rfl) ⟨rho_in rfl (fv (hK 2 (memE rfl))), rho_in rfl (fv (hK 3 (memE rfl))), trivial⟩ rfl (run_copy_op rfl rfl rfl hrun) ⟨hs6.then_ hI hwb, hs6.at_⟩
      refine w_end rfl rfl rfl (fun vs wq hI hF => ?_)
      simp only [List.reverse_cons, List.reverse_nil, List.nil_append, List.cons_append, finL_val, finL_of, finL_any, finL_app, finL_new, finL_gr, finL_row, finL_box, finL_nil, Act.put, List.setIfInBounds_toArray, List.set_cons_zero, List.set_cons_succ, Nat.reduceAdd]
      have HW5 := Lib.hid hI
      have HB5 : Hid (wq.heap[b]? = some (.cells D1.toArray 61 (0, 0))) := Lib.hid (hF 4 (by decide) rfl)
      clear hI hF HW4 HB9 HCUT2
      obtain ⟨w5, rfl⟩ : ∃ w5 : World, w5 = wq := ⟨_, rfl⟩
      go_upto_region 11 with fail
      refine draws_ (fun W => Below w.heap.size w W) (fun W => W.heap[b]? = some (.cells D1.toArray 61 (0, 0))) (by kernel_rfl) reg_73_11 rfl inv0 (fun _ _ h k => box_stays h k) (below_drew HW5.out) HB5.out ?_
      refine w_move (.inl rfl) (fun vs w hK => ⟨wants_none rfl, rho_out rfl rfl⟩) ?_
      refine w_move (.inl rfl) (fun vs w hK => ⟨wants_none rfl, rho_out rfl rfl⟩) ?_
      refine w_move (.inl rfl) (fun vs w hK => ⟨wants_none rfl, rho_out rfl rfl⟩) ?_
      refine w_val [(47, _), (48, _)] (_) (fun vs w hK => ⟨wants_none rfl, rho_in rfl (fv (hK 1 (memE rfl))), rho_in rfl (fv (hK 2 (memE rfl))), trivial⟩) rfl (fun wq hI => by exact run_int_add (c := ((i + 1 : Nat) : Int)) rfl rfl rfl (by rw [i64_id (by omega) (by omega)]; omega)) ?_
      refine w_val [(46, _), (49, _)] (_) (fun vs w hK => ⟨wants_none rfl, rho_in rfl (fv (hK 0 (memE rfl))), rho_in rfl (fv (hK 3 (memE rfl))), trivial⟩) rfl (fun wq hI => by exact run_slice_op rfl rfl (HCUT3.out wq)) ?_
      refine w_move (.inl rfl) (fun vs w hK => ⟨wants_none rfl, rho_out rfl rfl⟩) ?_
      refine w_move (.inl rfl) (fun vs w hK => ⟨wants_none rfl, rho_out rfl rfl⟩) ?_
      refine w_val [(51, _), (52, _)] (_) (fun vs w hK => ⟨wants_none rfl, rho_in rfl (fv (hK 5 (memE rfl))), rho_in rfl (fv (hK 6 (memE rfl))), trivial⟩) rfl (fun wq hI => by exact run_slice_op rfl rfl (HCUT1.out wq)) ?_
      refine w_lin (FW.of (fun _ W => W.heap[b]? = some (.cells D2.toArray 61 (0, 0))) (fun _ _ _ h hb => box_stays h hb)) (by decide) (fun vs wq hI hJ hK => ?_) ?_
      · have hA := hJ (by decide) (by decide)
        have hll := HLL.out
        obtain ⟨w6, hrun, hs6⟩ := copy_run (dl := n + 1 - (i + 1)) (dc := cap' - (i + 1)) (sl := n - i) (sc := n - i) (o := (i + 1) * kE) (cs := D) stEn hA (by rw [HD.out, nmin_of (r := n - i) (by omega)]) (src_cell (box_stays HG.out hI) HA.out HC.out) (by rw [HSM.out, HD.out, HLAY.out.2.1]; omega) HONE.out 3
        rw [HSM.out, ← HD2.out] at hs6
        exact ob_run [(50, _), (53, _)] (wants_none rfl) ⟨rho_in rfl (fv (hK 4 (memE rfl))), rho_in rfl (fv (hK 7 (memE rfl))), trivial⟩ rfl (run_copy_op rfl rfl rfl hrun) ⟨hs6.then_ hI hwb, hs6.at_⟩
      refine w_end rfl rfl rfl (fun vs wq hI hF => ?_)
      simp only [List.reverse_cons, List.reverse_nil, List.nil_append, List.cons_append, finL_val, finL_of, finL_any, finL_app, finL_new, finL_gr, finL_row, finL_box, finL_nil, Act.put, List.setIfInBounds_toArray, List.set_cons_zero, List.set_cons_succ, Nat.reduceAdd]
      have HW6 := Lib.hid hI
      have HB6 : Hid (wq.heap[b]? = some (.cells D2.toArray 61 (0, 0))) := Lib.hid (hF 8 (by decide) rfl)
      clear hI hF HW5 HB5 HCUT3
      go_wp2_with fail
      go_ret
      refine ⟨_, rfl, ?_, grown_below HW6.out, .inr ⟨b, rfl, hwb⟩⟩
      have h := own_cells (enc := encE) (k := kE) (e := 61) (cap := cap') (B := B) (ys := ys) (R := rest.drop (kE + (n - i) * kE)) encE_len (by rw [HFIN.out, ← HLAY.out.1]; exact HB6.out) (by rw [HFIN.out, ← HLAY.out.1, HLAY.out.2.2, HCAP.out]) (by rw [HFL.out]; omega) hc2 (by omega)
      rw [HFL.out] at h
      exact h
  · obtain rfl : i = xs.length := by omega
    obtain ⟨A, n, c, rfl, hnc, HL, hm, hs⟩ := ownk_open encE_len ho
    have hl := HL.out
    rw [hl]
    have e1 : xs.take n ++ [x] ++ xs.drop n = xs ++ [x] := by rw [← hl, List.take_length, List.drop_length, List.append_nil]
    rw [e1]
    obtain ⟨A', hcut⟩ := cut_any stEn A n c n (Nat.le_refl _) hnc .i64 (n : Int) rfl
    have HCUT := Lib.hid hcut
    have HS1 := Lib.hid hS1
    clear hcut hS1 hs ho hv e1 hi hge
    go_enter Try.func73, Try.ntmps73
    go_upto_region 1 with fail
    refine plain_ (fun wq => Below w.heap.size w wq) (fun _ => True) reg_73_1 rfl inv0 (fun _ _ _ _ => trivial) (Below.refl _ _) trivial ?_
    refine w_move (.inl rfl) (fun vs w hK => ⟨wants_none rfl, rho_out rfl rfl⟩) ?_
    refine w_move (.inl rfl) (fun vs w hK => ⟨wants_none rfl, rho_out rfl rfl⟩) ?_
    refine w_val [(10, _), (11, _)] (_) (fun vs w hK => ⟨wants_none rfl, rho_in rfl (fv (hK 0 (memE rfl))), rho_in rfl (fv (hK 1 (memE rfl))), trivial⟩) rfl (fun wq hI => by exact run_slice_op rfl rfl (HCUT.out wq)) ?_
    refine w_end rfl rfl rfl (fun vs wq hI hF => ?_)
    simp only [List.reverse_cons, List.reverse_nil, List.nil_append, List.cons_append, finL_val, finL_of, finL_any, finL_app, finL_new, finL_gr, finL_row, finL_box, finL_nil, Act.put, List.setIfInBounds_toArray, List.set_cons_zero, List.set_cons_succ, Nat.reduceAdd]
    have HW := Lib.hid hI
    have HO2 := Lib.hid (ownk_below HO.out hI)
    have HS2 := Lib.hid (sts_below HS1.out hI)
    have hB2 : B ≤ wq.heap.size := by have := hI.size; omega
    clear hI hF HCUT HS1 HV
    go_upto_region 7 with fail
    go_wp2_with (at_builtin; refine gapp_sts (w0 := wq) encE_len encE_one etE rfl (.tmp 23) (.tmp 24) rfl rfl rfl HO2.out HS2.out (Below.refl _ _) hB2 (by rw [hl]; omega) (by rw [hl]; omega) ?_; intro v1 w1 k1 k2 k3 k4)
    go_ret
    exact ⟨v1, rfl, k1, ((Fr.refl w _).below HW.out).trans k4⟩
end Go.Proofs.Ytnkeijdpjcclcaa.Mem
-- EntB
/- slices.BinarySearchFunc at entries. -/
namespace Go.Proofs.Ytnkeijdpjcclcaa.Mem
set_option linter.unusedVariables false
set_option linter.unusedSimpArgs false
open Go.Proofs.Ytnkeijdpjcclcaa.Kit Go.Proofs.Ytnkeijdpjcclcaa.Num Go.RowKit Go.Proofs.YtnkeijdpjcclcaaW.PrintWords Go.Proofs.YtnkeijdpjcclcaaW.PrintLast Go.Proofs.YtnkeijdpjcclcaaW.PrintMore NumPure Key
def e0 : Ent := ⟨⟨#[]⟩, 0, false, ⟨#[]⟩⟩
theorem ent_at {l : List (Nat × Value)} {o : Oper} {y : Operand} {ad : Addr} {x : Ent} {w : World} (ho : o.op = .load 61 y) (hy : lk l y = .pointer (some ad)) (hc : ∀ j v, (encE x)[j]? = some v → w.cell? (ad.add j) = some v) : (execOp (lk l) o).run Try.prog w = .ok (.value x.ag) w :=
  op_load_at ho ad x.cells hy hc Try.underlying61 rfl info61
theorem reg_72_4 : RegOk (opsOf Try.f72 4) [[], [], [0, 1], [0, 1, 2], [0, 1, 2, 3], [0, 1, 2, 3, 4], [0, 1, 2, 3, 4, 5]] [] [some 18, some 19, some 20, some 21, some 22, some 23, some 11] := regOk (by kernel_rfl)
theorem reg_72_5 : RegOk (opsOf Try.f72 5) [[], [], [], [1, 2], [1, 2, 3], [], [0, 1, 2, 3, 4, 5], [0, 1, 2, 3, 4, 5, 6]] [] [some 24, some 25, some 26, some 27, some 28, some 29, some 30, some 31] := regOk (by kernel_rfl)
theorem reg_72_8 : RegOk (opsOf Try.f72 8) [[], [], [], [1, 2], [1, 2, 3], [1, 2, 3, 4], [1, 2, 3, 4], [1, 2, 3, 4], [1, 2, 3, 4, 6, 7], [1, 2, 3, 4, 6, 7, 8], [1, 2, 3, 4], [1, 2, 3, 4, 5, 6, 7, 8, 9, 10], [1, 2, 3, 4, 5, 6, 7, 8, 9, 10, 11], [1, 2, 3, 4, 5, 6, 7, 8, 9, 10, 11, 12], [0, 1, 2, 3, 4, 5, 6, 7, 8, 9, 10, 11], [0, 1, 2, 3, 4, 5, 6, 7, 8, 9, 10, 11, 12, 13, 14]] [] [some 35, some 36, some 37, some 38, some 39, some 40, some 41, some 42, some 43, some 44, some 45, some 46, some 47, some 48, some 6, some 7] := regOk (by kernel_rfl)
set_option maxRecDepth 20000 in
set_option maxHeartbeats 1600000 in
theorem bsfE_any (A : Option Addr) (n c : Nat) (xs : List Ent) (x : Ent) (w : World) (hn : n ≤ 1000000000) (hr : Sts encE kE w A n xs) (hm : Mono Ent.cmp xs x) (hok : ∀ y ∈ xs, Ent.ok y) (hx : Ent.ok x) :
    Calls Try.prog 72 #[.slice A n c, x.ag, .func (.func 32) #[] #[]] w fun e w' => e = .returned (.tuple #[.int .i64 (pos Ent.cmp xs x : Nat), .bool (hit Ent.cmp xs x)]) ∧ Below w.heap.size w w' := by
  have HOK := Lib.hid hok
  have HM := Lib.hid hm
  have HR := Lib.hid hr
  have HL := Lib.hid hr.len
  obtain ⟨PO, hPO⟩ : ∃ PO, pos Ent.cmp xs x = PO := ⟨_, rfl⟩
  obtain ⟨T, hT⟩ : ∃ T, hit Ent.cmp xs x = T := ⟨_, rfl⟩
  rw [hPO, hT]
  have HPO := Lib.hid hPO
  have HTT := Lib.hid hT
  have HX0 := Lib.hid (heap_alloc_new w (.cells x.cells.toArray 61))
  have HB0 := Lib.hid (below_alloc (Below.refl w.heap.size w) (.cells x.cells.toArray 61))
  clear hok hm hr hPO hT
  show Calls Try.prog 72 #[.slice A n c, .agg x.cells.toArray, .func (.func 32) #[] #[]] w _
  go_enter Try.func72, Try.ntmps72
  go_upto_region 1 with fail
  generalize w.alloc (.cells x.cells.toArray 61) = w0 at HX0 HB0 ⊢
  generalize w.heap.size = bx at HX0 ⊢
  go_wp2_with fail
  go_loopw [9, 10, 11] (fun a b z wr => ∃ i j : Nat, i ≤ j ∧ j ≤ n ∧ a = .int .i64 i ∧ b = .int .i64 j ∧ Hid (∀ (q : Nat) (y : Ent), q < i → xs[q]? = some y → y.cmp x < 0) ∧ Hid (∀ y : Ent, xs[j]? = some y → 0 ≤ y.cmp x) ∧ Hid (Below w0.heap.size w0 wr)) (fun a b _ _ => (intOf b).toNat - (intOf a).toNat)
  case atStart => exact ⟨0, n, by omega, by omega, rfl, rfl, Lib.hid (fun q y hq => absurd hq (by omega)), Lib.hid (fun y hy => by have := (List.getElem?_eq_some_iff.1 hy).1; have := HL.out; omega), Lib.hid (Below.refl _ _)⟩
  case round =>
    obtain ⟨i, j, hij, hjn, rfl, rfl, HLo, HHi, HW⟩ := hrel
    by_cases hlt : i < j
    · have t1 : decide ((i : Int) < (j : Int)) = true := decide_eq_true (by omega)
      have hh1 : i ≤ (i + j) / 2 := by omega
      have hh2 : (i + j) / 2 < j := by omega
      have hq := half_i64 (i + j) (by omega)
      generalize hhd : (i + j) / 2 = h at hh1 hh2 hq
      have HQ := Lib.hid hq
      clear hhd hq
      go_upto_region 4 with fail
      refine plain_ (fun wq => Below wr.heap.size wr wq) (fun _ => True) reg_72_4 rfl inv0 (fun _ _ _ _ => trivial) (Below.refl _ _) trivial ?_
      refine w_move (.inl rfl) (fun vs w hK => ⟨wants_none rfl, rho_out rfl rfl⟩) ?_
      refine w_move (.inl rfl) (fun vs w hK => ⟨wants_none rfl, rho_out rfl rfl⟩) ?_
      refine w_val [(18, _), (19, _)] (_) (fun vs w hK => ⟨wants_none rfl, rho_in rfl (fv (hK 0 (memE rfl))), rho_in rfl (fv (hK 1 (memE rfl))), trivial⟩) rfl (fun wq hI => by exact run_int_add (c := ((i + j : Nat) : Int)) rfl rfl rfl (by rw [i64_id (by omega) (by omega)]; omega)) ?_
      refine w_val [(20, _)] (_) (fun vs w hK => ⟨wants_none rfl, rho_in rfl (fv (hK 2 (memE rfl))), trivial⟩) rfl (fun wq hI => by exact op_conv_int (k := .i64) (k2 := .u64) rfl Try.underlying3 Try.underlying78 rfl (u64_nat _ (by omega))) ?_
      refine w_val [(21, _)] (_) (fun vs w hK => ⟨wants_none rfl, rho_in rfl (fv (hK 3 (memE rfl))), trivial⟩) rfl (fun wq hI => by exact op_shr (k := .u64) rfl rfl rfl (by decide) HQ.out) ?_
      refine w_val [(22, _)] (_) (fun vs w hK => ⟨wants_none rfl, rho_in rfl (fv (hK 4 (memE rfl))), trivial⟩) rfl (fun wq hI => by exact op_conv_int (k := .u64) (k2 := .i64) rfl Try.underlying78 Try.underlying3 rfl (i64_id (by omega) (by omega))) ?_
      refine w_move (.inr rfl) (fun vs w hK => ⟨wants_none rfl, rho_in rfl (fv (hK 5 (memE rfl)))⟩) ?_
      refine w_end rfl rfl rfl (fun vs wq hI hF => ?_)
      simp only [List.reverse_cons, List.reverse_nil, List.nil_append, List.cons_append, finL_val, finL_of, finL_any, finL_app, finL_new, finL_gr, finL_row, finL_box, finL_nil, Act.put, List.setIfInBounds_toArray, List.set_cons_zero, List.set_cons_succ, Nat.reduceAdd]
      have HW1 := Lib.hid (below_then HW.out HW.out.size hI)
      clear hF HQ hI HW
      obtain ⟨w1, rfl⟩ : ∃ w1 : World, w1 = wq := ⟨_, rfl⟩
      have hhn : h < n := by omega
      obtain ⟨y, hp⟩ : ∃ y : Ent, xs[h]? = some y := ⟨_, List.getElem?_eq_getElem (by rw [HL.out]; exact hhn)⟩
      have HSW := Lib.hid (sts_below (sts_below HR.out HB0.out) HW1.out)
      obtain ⟨ad, rfl, hc⟩ := HSW.out.row (by omega)
      have HC := Lib.hid (hc h _ hp)
      have HX1 := Lib.hid (box_stays HX0.out HW1.out)
      have HP := Lib.hid hp
      obtain ⟨D, hD⟩ : ∃ D, decide (y.cmp x < 0) = D := ⟨_, rfl⟩
      have HD := Lib.hid hD
      clear hc hp hD HSW
      go_upto_region 5 with fail
      refine draws_ (fun wq => Below w1.heap.size w1 wq) (fun _ => True) (by kernel_rfl) reg_72_5 rfl inv0 (fun _ _ _ _ => trivial) (below_drew (Below.refl _ _)) trivial ?_
      refine w_move (.inl rfl) (fun vs w hK => ⟨wants_none rfl, rho_out rfl rfl⟩) ?_
      refine w_move (.inl rfl) (fun vs w hK => ⟨wants_none rfl, rho_out rfl rfl⟩) ?_
      refine w_move (.inl rfl) (fun vs w hK => ⟨wants_none rfl, rho_out rfl rfl⟩) ?_
      refine w_val [(25, _), (26, _)] (_) (fun vs w hK => ⟨wants_none rfl, rho_in rfl (fv (hK 1 (memE rfl))), rho_in rfl (fv (hK 2 (memE rfl))), trivial⟩) rfl (fun wq hI => by exact op_index_st stEn rfl rfl rfl rfl hhn) ?_
      refine w_val [(27, _)] (y.ag) (fun vs w hK => ⟨wants_none rfl, rho_in rfl (fv (hK 3 (memE rfl))), trivial⟩) rfl (fun wq hI => by exact ent_at rfl rfl (fun j v h => below_cell hI (HC.out j v h))) ?_
      refine w_val [(4, _)] (x.ag) (fun vs w hK => ⟨wants_none rfl, rho_out rfl rfl, trivial⟩) rfl (fun wq hI => by exact run_load_op rfl rfl (load_ent (box_stays HX1.out hI))) ?_
      refine w_callv [(24, _), (28, _), (29, _)] _ _ (by decide) (fun vs w hK => ⟨wants_none rfl, rho_in rfl (fv (hK 0 (memE rfl))), rho_in rfl (fv (hK 4 (memE rfl))), rho_in rfl (fv (hK 5 (memE rfl))), trivial⟩) rfl rfl rfl Try.func32 (by kernel_rfl) rfl (fun wq hI => cmp_any y x (HOK.out y (List.mem_of_getElem? HP.out)) hx wq) (margsC rfl) ?_
      refine w_val [(30, _)] (.bool D) (fun vs w hK => ⟨wants_none rfl, rho_in rfl (fv (hK 6 (memE rfl))), trivial⟩) rfl (fun wq hI => by exact run_int_lss rfl rfl rfl HD.out) ?_
      refine w_end rfl rfl rfl (fun vs wq hI hF => ?_)
      simp only [List.reverse_cons, List.reverse_nil, List.nil_append, List.cons_append, finL_val, finL_of, finL_any, finL_app, finL_new, finL_gr, finL_row, finL_box, finL_nil, Act.put, List.setIfInBounds_toArray, List.set_cons_zero, List.set_cons_succ, Nat.reduceAdd]
      have HW2 := Lib.hid (below_then HW1.out HW1.out.size hI)
      clear hI hF HC HX1 HW1
      cases D with
      | true =>
        have HL2 : Hid (∀ (q : Nat) (y : Ent), q < h + 1 → xs[q]? = some y → y.cmp x < 0) := Lib.hid fun q z hq hz => HM.out q h z y (by omega) hz HP.out (of_decide_eq_true HD.out)
        clear HLo HP HD
        go_wp2_with fail
        go_round
        case rel => exact ⟨h + 1, j, by omega, by omega, by go_num, rfl, HL2, HHi, HW2⟩
        case measure => simp [intOf]; omega
      | false =>
        have HH2 : Hid (∀ y : Ent, xs[h]? = some y → 0 ≤ y.cmp x) := Lib.hid fun z hz => by
          rw [HP.out] at hz
          injection hz with hz
          subst hz
          have := of_decide_eq_false HD.out
          omega
        clear HHi HP HD
        go_wp2_with fail
        go_round
        case rel => exact ⟨i, h, by omega, by omega, rfl, rfl, HLo, HH2, HW2⟩
        case measure => simp [intOf]; omega
    · obtain rfl : i = j := by omega
      have t1 : decide ((i : Int) < (i : Int)) = false := by simp
      have hpos : i = PO := (pos_of Ent.cmp (by rw [HL.out]; omega) HLo.out (fun y hy => by have := HHi.out y hy; omega)).symm.trans HPO.out
      subst hpos
      have HT : Hid (T = (decide (((i : Nat) : Int) < (n : Int)) && ((xs.getD i e0).cmp x == 0))) := Lib.hid (by
        rw [← HTT.out]
        unfold hit
        rw [HPO.out]
        rcases Nat.lt_or_ge i n with g | g
        · have hl : i < xs.length := by rw [HL.out]; exact g
          rw [List.getElem?_eq_getElem hl, decide_eq_true (by omega), Bool.true_and, List.getD_eq_getElem?_getD, List.getElem?_eq_getElem hl]
          rfl
        · rw [List.getElem?_eq_none (by rw [HL.out]; exact g), decide_eq_false (by omega), Bool.false_and])
      clear HLo HHi HM HTT HPO
      have HGD : Hid (∀ i, i < n → xs[i]? = some (xs.getD i e0)) := Lib.hid fun i hi => by rw [List.getD_eq_getElem?_getD, List.getElem?_eq_getElem (by rw [HL.out]; exact hi)]; rfl
      have HSW := Lib.hid (sts_below (sts_below HR.out HB0.out) HW.out)
      have HX1 := Lib.hid (box_stays HX0.out HW.out)
      go_upto_region 8 with fail
      refine draws_ (fun wq => Below wr.heap.size wr wq) (fun _ => True) (by kernel_rfl) reg_72_8 rfl inv0 (fun _ _ _ _ => trivial) (below_drew (Below.refl _ _)) trivial ?_
      refine w_move (.inl rfl) (fun vs w hK => ⟨wants_none rfl, rho_out rfl rfl⟩) ?_
      refine w_move (.inl rfl) (fun vs w hK => ⟨wants_none rfl, rho_out rfl rfl⟩) ?_
      refine w_move (.inl rfl) (fun vs w hK => ⟨wants_none rfl, rho_out rfl rfl⟩) ?_
      refine w_val [(36, _), (37, _)] (_) (fun vs w hK => ⟨wants_none rfl, rho_in rfl (fv (hK 1 (memE rfl))), rho_in rfl (fv (hK 2 (memE rfl))), trivial⟩) rfl (fun wq hI => by exact run_int_lss rfl rfl rfl rfl) ?_
      refine w_move (.inl rfl) (fun vs w hK => ⟨wants_none rfl, rho_in rfl (fv (hK 3 (memE rfl)))⟩) ?_
      refine w_moveG (.inl rfl) (fun vs w hK => wantsT rfl (fv (hK 4 (memE rfl)))) (fun hG vs w hK => (rho_out rfl rfl)) ?_
      refine w_moveG (.inl rfl) (fun vs w hK => wantsT rfl (fv (hK 4 (memE rfl)))) (fun hG vs w hK => (rho_out rfl rfl)) ?_
      refine w_moveG (.inl rfl) (fun vs w hK => wantsT rfl (fv (hK 4 (memE rfl)))) (fun hG vs w hK => (rho_out rfl rfl)) ?_
      refine w_valG [(41, _), (42, _)] (.pointer (A.map (·.add (i * kE)))) (fun vs w hK => wantsT rfl (fv (hK 4 (memE rfl)))) (fun hG vs w hK => ⟨(rho_in rfl (fvg (hK 6 (memE rfl)) hG)), (rho_in rfl (fvg (hK 7 (memE rfl)) hG)), trivial⟩) rfl (fun hG wq hI => by (have hlt := of_decide_eq_true hG; obtain ⟨ad, e, _⟩ := HSW.out.row (by omega); subst e; exact op_index_st stEn rfl rfl rfl rfl (by omega))) ?_
      refine w_valG [(43, _)] ((xs.getD i e0).ag) (fun vs w hK => wantsT rfl (fv (hK 4 (memE rfl)))) (fun hG vs w hK => ⟨(rho_in rfl (fvg (hK 8 (memE rfl)) hG)), trivial⟩) rfl (fun hG wq hI => by (have hlt := of_decide_eq_true hG; obtain ⟨ad, e, hc⟩ := (sts_below HSW.out hI).row (by omega); subst e; exact ent_at rfl rfl (hc i _ (HGD.out i (by omega))))) ?_
      refine w_valG [(4, _)] (x.ag) (fun vs w hK => wantsT rfl (fv (hK 4 (memE rfl)))) (fun hG vs w hK => ⟨(rho_out rfl rfl), trivial⟩) rfl (fun hG wq hI => by exact run_load_op rfl rfl (load_ent (box_stays HX1.out hI))) ?_
      refine w_callvG [(40, _), (44, _), (45, _)] _ _ (by decide) (fun vs w hK => wantsT rfl (fv (hK 4 (memE rfl)))) (fun hG vs w hK => ⟨(rho_in rfl (fvg (hK 5 (memE rfl)) hG)), (rho_in rfl (fvg (hK 9 (memE rfl)) hG)), (rho_in rfl (fvg (hK 10 (memE rfl)) hG)), trivial⟩) rfl rfl rfl Try.func32 (by kernel_rfl) rfl (fun hG wq hI => cmp_any (xs.getD i e0) x (HOK.out _ (List.mem_of_getElem? (HGD.out i (by have hlt := of_decide_eq_true hG; omega)))) hx wq) (margsC rfl) ?_
      refine w_valG [(46, _)] (_) (fun vs w hK => wantsT rfl (fv (hK 4 (memE rfl)))) (fun hG vs w hK => ⟨(rho_in rfl (fvg (hK 11 (memE rfl)) hG)), trivial⟩) rfl (fun hG wq hI => by exact run_int_eql rfl rfl rfl rfl) ?_
      refine w_and rfl (fun vs w hK => wants_none rfl) (fun vs w hK => (rho_in rfl (fv (hK 4 (memE rfl))))) (fun hB vs w hK => (rho_in rfl (fvg (hK 12 (memE rfl)) hB))) ?_
      refine w_as (c' := .bool T) (congrArg Value.bool HT.out.symm) ?_
      refine w_move (.inr rfl) (fun vs w hK => ⟨wants_none rfl, rho_in rfl (fv (hK 0 (memE rfl)))⟩) ?_
      refine w_move (.inr rfl) (fun vs w hK => ⟨wants_none rfl, rho_in rfl (fv (hK 13 (memE rfl)))⟩) ?_
      refine w_endM [false, false, false, false, false, false, false, false, false, false, false, false, false, false, true, true] rfl rfl rfl (fun vs wq hI hF => ?_)
      simp only [List.reverse_cons, List.reverse_nil, List.nil_append, List.cons_append, finL_val, finL_of, finL_any, finL_app, finL_new, finL_gr, finL_row, finL_box, finL_nil, Act.put, List.setIfInBounds_toArray, List.set_cons_zero, List.set_cons_succ, Nat.reduceAdd, maskF, finL_imp, Bool.not_false, Bool.not_true, Bool.true_and, Bool.false_and]
      have HW2 := Lib.hid (below_then HB0.out HB0.out.size (below_then HW.out HW.out.size hI))
      clear hI hF
      go_wp2_with fail
      go_ret2
      exact ⟨rfl, HW2.out⟩
end Go.Proofs.Ytnkeijdpjcclcaa.Mem
-- EntC
/- mem.Sorted of entries. -/
namespace Go.Proofs.Ytnkeijdpjcclcaa.Mem
set_option linter.unusedVariables false
set_option linter.unusedSimpArgs false
open Go.Proofs.Ytnkeijdpjcclcaa.Kit Go.Proofs.Ytnkeijdpjcclcaa.Num Go.RowKit Go.Proofs.YtnkeijdpjcclcaaW.PrintWords Go.Proofs.YtnkeijdpjcclcaaW.PrintLast Go.Proofs.YtnkeijdpjcclcaaW.PrintMore NumPure Key
/-- What changes: at most a box, a row, and what is new. -/
structure Gr2 (w W : World) (p : Nat) (r : Option Nat) : Prop where
  os : W.os = w.os
  tape : W.tape = w.tape
  output : W.output = w.output
  size : w.heap.size ≤ W.heap.size
  block : ∀ k, k < w.heap.size → k ≠ p → some k ≠ r → W.heap[k]? = w.heap[k]?
theorem gr2_below {w W : World} {p : Nat} {r : Option Nat} (h : Below w.heap.size w W) : Gr2 w W p r := ⟨h.os, h.tape, h.output, h.size, fun k hk _ _ => h.block k hk⟩
theorem gr2_then {w W W' : World} {p : Nat} {r : Option Nat} (h : Gr2 w W p r) (hb : Below W.heap.size W W') : Gr2 w W' p r :=
  ⟨hb.os.trans h.os, hb.tape.trans h.tape, hb.output.trans h.output, Nat.le_trans h.size hb.size, fun k hk hp hr => (hb.block k (Nat.lt_of_lt_of_le hk h.size)).trans (h.block k hk hp hr)⟩
theorem gr2_grown {w W W' : World} {p : Nat} {r : Option Nat} (h : Gr2 w W p r) (hb : W.grownBy W' r) : Gr2 w W' p r :=
  ⟨hb.os.trans h.os, hb.tape.trans h.tape, hb.output.trans h.output, Nat.le_trans h.size hb.size, fun k hk hp hr => (hb.block k (Nat.lt_of_lt_of_le hk h.size) hr).trans (h.block k hk hp hr)⟩
theorem gr2_set {w W W' : World} {p : Nat} {r : Option Nat} {o : Obj} (h : Gr2 w W p r) (hs : Set1 W p o W') : Gr2 w W' p r :=
  ⟨hs.os.trans h.os, hs.tape.trans h.tape, hs.output.trans h.output, by rw [hs.size]; exact h.size, fun k hk hp hr => (hs.other k hp).trans (h.block k hk hp hr)⟩
theorem gr2_setr {w W W' : World} {p g : Nat} {o : Obj} (h : Gr2 w W p (some g)) (hs : Set1 W g o W') : Gr2 w W' p (some g) :=
  ⟨hs.os.trans h.os, hs.tape.trans h.tape, hs.output.trans h.output, by rw [hs.size]; exact h.size, fun k hk hp hr => (hs.other k (fun e => hr (by rw [e]))).trans (h.block k hk hp hr)⟩
/-- A sorted one of entries. -/
structure SOE (w : World) (B p : Nat) (v : Value) (xs : List Ent) : Prop where
  box : w.heap[p]? = some (.cells [Value.func (.func 32) #[] #[], v].toArray 101 (0, 0))
  own : OwnK encE kE 61 w B v xs
  ne : v.ownBlock ≠ some p
  base : B ≤ p
theorem soe_below {w W : World} {B p : Nat} {v : Value} {xs : List Ent} (h : SOE w B p v xs) (hb : Below w.heap.size w W) : SOE W B p v xs := ⟨box_stays h.box hb, ownk_below h.own hb, h.ne, h.base⟩
/-- Where it goes. -/
def Goes (w : World) (v v' : Value) : Prop := v'.ownBlock = v.ownBlock ∨ ∃ b, v'.ownBlock = some b ∧ w.heap.size ≤ b
theorem info95 : (Try.prog.info? 95).map (·.size) = some 1 := by kernel_rfl
theorem info59 : (Try.prog.info? 59).map (·.size) = some 1 := by kernel_rfl
theorem info3 : (Try.prog.info? 3).map (·.size) = some 1 := by kernel_rfl
theorem lenE_any (w : World) {B p : Nat} {v : Value} {xs : List Ent} (h : SOE w B p v xs) : Calls Try.prog 66 #[.pointer (some ⟨p, 0, none⟩)] w fun e w' => e = .returned (.int .i64 (xs.length : Nat)) ∧ Below w.heap.size w w' := by
  obtain ⟨A, n, c, rfl, hnc, HL, hm, hs⟩ := ownk_open encE_len h.own
  rw [HL.out]
  have hc : w.cell? ⟨p, 1, none⟩ = some (.slice A n c) := by
    have := h.box
    simp [World.cell?, this]
  clear h hs
  go_enter Try.func66, Try.ntmps66
  go_wp2_with fail
  go_ret
  exact ⟨rfl, Below.refl _ _⟩
theorem reg_63_3 : RegOk (opsOf Try.f63 3) [[], [0], [0, 1], [0, 1, 2], [], [], [5], [5, 6], [5, 6, 7], [0, 1, 2, 3, 4, 5, 6, 7, 8], [0, 1, 2, 3, 4, 5, 6, 7, 8, 9], [0, 1, 2, 3, 4, 5, 6, 7, 8, 9, 10], [0, 1, 2, 3, 4, 5, 6, 7, 8, 9, 10], [0, 1, 2, 3, 4, 5, 6, 7, 8, 9, 10, 11], [0, 1, 2, 3, 4, 5, 6, 7, 8, 9, 10, 11, 12, 13]] [] [some 10, some 11, some 12, some 13, some 14, some 15, some 16, some 17, some 18, some 19, some 9, some 20, some 21, some 5, some 6] := regOk (by kernel_rfl)
theorem seekE_any (w : World) {B p : Nat} {v : Value} {xs : List Ent} (x : Ent) (h : SOE w B p v xs) (hn : xs.length ≤ 1000000) (hok : ∀ y ∈ xs, Ent.ok y) (hx : Ent.ok x) (hm : Mono Ent.cmp xs x) : Calls Try.prog 63 #[.pointer (some ⟨p, 0, none⟩), x.ag] w fun e w' => e = .returned (.int .i64 (pos Ent.cmp xs x : Nat)) ∧ Below w.heap.size w w' := by
  obtain ⟨A, n, c, rfl, hnc, HL, hmx, hs⟩ := ownk_open encE_len h.own
  have hl := HL.out
  have HB0 := Lib.hid h.box
  have HS0 := Lib.hid hs
  have HC := Lib.hid (fun W (hW : Below w.heap.size w W) => bsfE_any A n c xs x W (by omega) (sts_below HS0.out hW) hm hok hx)
  have HX0 := Lib.hid (heap_alloc_new w (.cells x.cells.toArray 61))
  have HA0 := Lib.hid (below_alloc (Below.refl w.heap.size w) (.cells x.cells.toArray 61))
  clear h hs hok hx hm HS0
  generalize pos Ent.cmp xs x = po at *
  generalize hit Ent.cmp xs x = T at *
  show Calls Try.prog 63 #[.pointer (some ⟨p, 0, none⟩), .agg x.cells.toArray] w _
  go_enter Try.func63, Try.ntmps63
  go_upto_region 1 with fail
  have HB := Lib.hid (box_stays HB0.out HA0.out)
  generalize w.alloc (.cells x.cells.toArray 61) = w0 at HX0 HA0 HB ⊢
  generalize w.heap.size = bx at HX0 ⊢
  go_upto_region 3 with fail
  refine draws_ (fun wq => Below w0.heap.size w0 wq) (fun _ => True) (by kernel_rfl) reg_63_3 rfl inv0 (fun _ _ _ _ => trivial) (below_drew (Below.refl _ _)) trivial ?_
  refine w_move (.inl rfl) (fun vs w hK => ⟨wants_none rfl, rho_out rfl rfl⟩) ?_
  refine w_val [(10, _)] _ (fun vs w hK => ⟨wants_none rfl, rho_in rfl (fv (hK 0 (memE rfl))), trivial⟩) rfl (fun wq hI => by simp only [execOp, Option.map_some, Option.map_none, lk_tmp, lk_const, lkT_cons, ↓reduceIte, Nat.reduceEqDiff]; go_simp; (first | done | rfl)) ?_
  refine w_val [(11, _)] (_) (fun vs w hK => ⟨wants_none rfl, rho_in rfl (fv (hK 1 (memE rfl))), trivial⟩) rfl (fun wq hI => by exact op_field rfl rfl Try.underlying101 rfl rfl rfl info59 (by decide)) ?_
  refine w_val [(12, _)] (.slice A n c) (fun vs w hK => ⟨wants_none rfl, rho_in rfl (fv (hK 2 (memE rfl))), trivial⟩) rfl (fun wq hI => by exact run_load_cell (ad := ⟨p, 1, none⟩) rfl rfl rfl Try.underlying59 rfl (by have := box_stays HB.out hI; simp [World.cell?, this])) ?_
  refine w_val [(3, _)] (x.ag) (fun vs w hK => ⟨wants_none rfl, rho_out rfl rfl, trivial⟩) rfl (fun wq hI => by exact run_load_op rfl rfl (load_ent (box_stays HX0.out hI))) ?_
  refine w_move (.inl rfl) (fun vs w hK => ⟨wants_none rfl, rho_out rfl rfl⟩) ?_
  refine w_val [(15, _)] _ (fun vs w hK => ⟨wants_none rfl, rho_in rfl (fv (hK 5 (memE rfl))), trivial⟩) rfl (fun wq hI => by simp only [execOp, Option.map_some, Option.map_none, lk_tmp, lk_const, lkT_cons, ↓reduceIte, Nat.reduceEqDiff]; go_simp; (first | done | rfl)) ?_
  refine w_val [(16, _)] (_) (fun vs w hK => ⟨wants_none rfl, rho_in rfl (fv (hK 6 (memE rfl))), trivial⟩) rfl (fun wq hI => by exact op_field rfl rfl Try.underlying101 rfl rfl rfl info95 (by decide)) ?_
  refine w_val [(17, _)] (.func (.func 32) #[] #[]) (fun vs w hK => ⟨wants_none rfl, rho_in rfl (fv (hK 7 (memE rfl))), trivial⟩) rfl (fun wq hI => by exact run_load_cell (ad := ⟨p, 0, none⟩) rfl rfl rfl Try.underlying95 rfl (by have := box_stays HB.out hI; simp [World.cell?, this])) ?_
  refine w_call [(13, _), (14, _), (18, _)] _ _ (by decide) (fun vs w hK => ⟨wants_none rfl, rho_in rfl (fv (hK 3 (memE rfl))), rho_in rfl (fv (hK 4 (memE rfl))), rho_in rfl (fv (hK 8 (memE rfl))), trivial⟩) rfl rfl Try.func72 (by kernel_rfl) rfl (fun wq hI => HC.out wq (below_then HA0.out HA0.out.size hI)) (margs rfl) ?_
  refine w_move (.inl rfl) (fun vs w hK => ⟨wants_none rfl, rho_in rfl (fv (hK 9 (memE rfl)))⟩) ?_
  refine w_val [(9, _)] _ (fun vs w hK => ⟨wants_none rfl, rho_in rfl (fv (hK 10 (memE rfl))), trivial⟩) rfl (fun wq hI => by simp only [execOp, Option.map_some, Option.map_none, lk_tmp, lk_const, lkT_cons, ↓reduceIte, Nat.reduceEqDiff]; go_simp; (first | done | rfl)) ?_
  refine w_val [(9, _)] _ (fun vs w hK => ⟨wants_none rfl, rho_in rfl (fv (hK 10 (memE rfl))), trivial⟩) rfl (fun wq hI => by simp only [execOp, Option.map_some, Option.map_none, lk_tmp, lk_const, lkT_cons, ↓reduceIte, Nat.reduceEqDiff]; go_simp; (first | done | rfl)) ?_
  refine w_move (.inr rfl) (fun vs w hK => ⟨wants_none rfl, rho_in rfl (fv (hK 11 (memE rfl)))⟩) ?_
  refine w_move (.inr rfl) (fun vs w hK => ⟨wants_none rfl, rho_in rfl (fv (hK 12 (memE rfl)))⟩) ?_
  refine w_end rfl rfl rfl (fun vs wq hI hF => ?_)
  simp only [List.reverse_cons, List.reverse_nil, List.nil_append, List.cons_append, finL_val, finL_of, finL_any, finL_app, finL_new, finL_gr, finL_row, finL_box, finL_nil, Act.put, List.setIfInBounds_toArray, List.set_cons_zero, List.set_cons_succ, Nat.reduceAdd]
  have HW := Lib.hid (below_then HA0.out HA0.out.size hI)
  clear hI hF
  go_wp2_with fail
  go_ret
  exact ⟨rfl, HW.out⟩
/-- What stands at a place. -/
def atE (xs : List Ent) (j : Int) : Ent × Bool := if 0 ≤ j ∧ j < (xs.length : Int) then (xs.getD j.toNat e0, true) else (e0, false)
theorem reg_62_1 : RegOk (opsOf Try.f62 1) [[], [0], [0, 1], [0, 1, 2], [0, 1, 2, 3], [0, 1, 2, 3, 4], [0, 1, 2, 3, 4, 5], [0, 1, 2, 3, 4, 5, 6], [0, 1, 2, 3, 4, 5, 6], [0, 1, 2, 3, 4, 5, 6, 8], [0, 1, 2, 3, 4, 5, 6, 8, 9], [0, 1, 2, 3, 4, 5, 6, 8, 9, 10], [0, 1, 2, 3, 4, 5, 6, 8, 9, 10, 11], [0, 1, 2, 3, 4, 5, 6, 7, 8, 9, 10, 11, 12], [0, 1, 2, 3, 4, 5, 6, 7, 8, 9, 10, 11, 12, 13]] [] [some 7, some 8, some 9, some 10, some 11, some 12, some 13, some 14, some 15, some 16, some 17, some 18, some 19, some 20, some 21] := regOk (by kernel_rfl)
theorem atE_any (w : World) {B p : Nat} {v : Value} {xs : List Ent} (j : Int) (h : SOE w B p v xs) : Calls Try.prog 62 #[.pointer (some ⟨p, 0, none⟩), .int .i64 j] w fun e w' => e = .returned (.tuple #[(atE xs j).1.ag, .bool (atE xs j).2]) ∧ Below w.heap.size w w' := by
  obtain ⟨A, n, c, rfl, hnc, HL, hmx, hs⟩ := ownk_open encE_len h.own
  have hl := HL.out
  have HB0 := Lib.hid h.box
  have HS0 := Lib.hid hs
  clear h hs
  obtain ⟨D, hD⟩ : ∃ D, (decide (j < 0) || decide (j ≥ (n : Int))) = D := ⟨_, rfl⟩
  have HD := Lib.hid hD
  clear hD
  obtain ⟨P, hP⟩ : ∃ P, atE xs j = P := ⟨_, rfl⟩
  rw [hP]
  have HP := Lib.hid hP
  clear hP
  go_enter Try.func62, Try.ntmps62
  go_upto_region 1 with fail
  have HB1 := Lib.hid (below_alloc (Below.refl w.heap.size w) (.cells e0.cells.toArray 61))
  have HX1 := Lib.hid (heap_alloc_new w (.cells e0.cells.toArray 61))
  have HB := Lib.hid (box_stays HB0.out HB1.out)
  have HS := Lib.hid (sts_below HS0.out HB1.out)
  change Code.wp _ _ _ _ (w.alloc (.cells e0.cells.toArray 61))
  generalize w.alloc (.cells e0.cells.toArray 61) = w0 at HB1 HX1 HB HS ⊢
  obtain ⟨g, hg⟩ : ∃ g, w.heap.size = g := ⟨_, rfl⟩
  have hgl : w.heap.size ≤ g := by omega
  rw [hg] at HX1 ⊢
  clear hg HB0 HS0
  refine plain_ (fun wq => Below w0.heap.size w0 wq) (fun _ => True) reg_62_1 rfl inv0 (fun _ _ _ _ => trivial) (Below.refl _ _) trivial ?_
  refine w_move (.inl rfl) (fun vs w hK => ⟨wants_none rfl, rho_out rfl rfl⟩) ?_
  refine w_val [(7, _)] (.bool false) (fun vs w hK => ⟨wants_none rfl, rho_in rfl (fv (hK 0 (memE rfl))), trivial⟩) rfl (fun wq hI => by simp only [execOp, Option.map_some, Option.map_none, lk_tmp, lk_const, lkT_cons, ↓reduceIte, Nat.reduceEqDiff]; go_simp; (first | done | rfl)) ?_
  refine w_move (.inl rfl) (fun vs w hK => ⟨wants_none rfl, rho_in rfl (fv (hK 1 (memE rfl)))⟩) ?_
  refine w_moveG (.inl rfl) (fun vs w hK => wantsF rfl (fv (hK 2 (memE rfl)))) (fun hG vs w hK => (rho_out rfl rfl)) ?_
  refine w_valG [(10, _)] (_) (fun vs w hK => wantsF rfl (fv (hK 2 (memE rfl)))) (fun hG vs w hK => ⟨(rho_in rfl (fvg (hK 3 (memE rfl)) hG)), trivial⟩) rfl (fun hG wq hI => by exact run_int_lss rfl rfl rfl rfl) ?_
  refine w_or rfl (fun vs w hK => wants_none rfl) (fun vs w hK => (rho_in rfl (fv (hK 2 (memE rfl))))) (fun hB vs w hK => (rho_in rfl (fvg (hK 4 (memE rfl)) (gnot hB)))) ?_
  refine w_move (.inl rfl) (fun vs w hK => ⟨wants_none rfl, rho_in rfl (fv (hK 5 (memE rfl)))⟩) ?_
  refine w_moveG (.inl rfl) (fun vs w hK => wantsF rfl (fv (hK 6 (memE rfl)))) (fun hG vs w hK => (rho_out rfl rfl)) ?_
  refine w_moveG (.inl rfl) (fun vs w hK => wantsF rfl (fv (hK 6 (memE rfl)))) (fun hG vs w hK => (rho_out rfl rfl)) ?_
  refine w_valG [(15, _)] (_) (fun vs w hK => wantsF rfl (fv (hK 6 (memE rfl)))) (fun hG vs w hK => ⟨(rho_in rfl (fvg (hK 8 (memE rfl)) hG)), trivial⟩) rfl (fun hG wq hI => by simp only [execOp, Option.map_some, Option.map_none, lk_tmp, lk_const, lkT_cons, ↓reduceIte, Nat.reduceEqDiff]; go_simp; (first | done | rfl)) ?_
  refine w_valG [(16, _)] (_) (fun vs w hK => wantsF rfl (fv (hK 6 (memE rfl)))) (fun hG vs w hK => ⟨(rho_in rfl (fvg (hK 9 (memE rfl)) hG)), trivial⟩) rfl (fun hG wq hI => by exact op_field rfl rfl Try.underlying101 rfl rfl rfl info59 (by decide)) ?_
  refine w_valG [(17, _)] (.slice A n c) (fun vs w hK => wantsF rfl (fv (hK 6 (memE rfl)))) (fun hG vs w hK => ⟨(rho_in rfl (fvg (hK 10 (memE rfl)) hG)), trivial⟩) rfl (fun hG wq hI => by exact run_load_cell (ad := ⟨p, 1, none⟩) rfl rfl rfl Try.underlying59 rfl (by have := box_stays HB.out hI; simp [World.cell?, this])) ?_
  refine w_valG [(18, _)] (_) (fun vs w hK => wantsF rfl (fv (hK 6 (memE rfl)))) (fun hG vs w hK => ⟨(rho_in rfl (fvg (hK 11 (memE rfl)) hG)), trivial⟩) rfl (fun hG wq hI => by exact run_len_sl rfl Try.underlying59 rfl rfl) ?_
  refine w_valG [(14, _), (19, _)] (_) (fun vs w hK => wantsF rfl (fv (hK 6 (memE rfl)))) (fun hG vs w hK => ⟨(rho_in rfl (fvg (hK 7 (memE rfl)) hG)), (rho_in rfl (fvg (hK 12 (memE rfl)) hG)), trivial⟩) rfl (fun hG wq hI => by exact run_int_geq rfl rfl rfl rfl) ?_
  refine w_or rfl (fun vs w hK => wants_none rfl) (fun vs w hK => (rho_in rfl (fv (hK 6 (memE rfl))))) (fun hB vs w hK => (rho_in rfl (fvg (hK 13 (memE rfl)) (gnot hB)))) ?_
  refine w_as (c' := .bool D) (congrArg Value.bool (by rw [Bool.false_or]; exact HD.out)) ?_
  refine w_endM [false, false, false, false, false, false, false, false, false, false, false, false, false, false, true] rfl rfl rfl (fun vs wq hI hF => ?_)
  simp only [List.reverse_cons, List.reverse_nil, List.nil_append, List.cons_append, finL_val, finL_of, finL_any, finL_app, finL_new, finL_gr, finL_row, finL_box, finL_nil, Act.put, List.setIfInBounds_toArray, List.set_cons_zero, List.set_cons_succ, Nat.reduceAdd, maskF, finL_imp, Bool.not_false, Bool.not_true, Bool.true_and, Bool.false_and]
  have HW := Lib.hid (below_then HB1.out HB1.out.size hI)
  have HX2 := Lib.hid (box_stays HX1.out hI)
  have HS1 := Lib.hid (sts_below HS.out hI)
  have HBB := Lib.hid (box_stays HB.out hI)
  clear hI hF HB1 HX1 HB HS
  obtain ⟨w1, rfl⟩ : ∃ w1 : World, w1 = wq := ⟨_, rfl⟩
  cases D with
  | true =>
    have e := HP.out
    unfold atE at e
    rw [if_neg (by have h := HD.out; rw [Bool.or_eq_true, decide_eq_true_iff, decide_eq_true_iff] at h; rw [hl]; omega)] at e
    have HPE := Lib.hid e
    clear e HP HS1 HBB
    have HX3 := Lib.hid (heap_alloc_new w1 (.cells e0.cells.toArray 61))
    have HW3 := Lib.hid (below_then HW.out HW.out.size (below_alloc (Below.refl _ _) (.cells e0.cells.toArray 61)))
    have HX4 := Lib.hid (box_stays HX2.out (below_alloc (Below.refl _ _) (.cells e0.cells.toArray 61)))
    go_upto_region 3 with fail
    change Code.wp _ _ _ _ (w1.alloc (.cells e0.cells.toArray 61))
    generalize w1.alloc (.cells e0.cells.toArray 61) = w3 at HX3 HW3 HX4 ⊢
    generalize w1.heap.size = g2 at HX3 ⊢
    go_wp2_with (first
      | (refine wpList_load_box rfl 61 (.tmp 6) rfl g2 e0.cells rfl HX3.out Try.underlying61 rfl info61 ?_)
      | (refine wpList_store_box rfl 61 (.tmp 4) (.tmp 22) rfl g e0.cells rfl rfl HX4.out rfl info61 rfl ?_; intro w7 hs7; have HS7 := Lib.hid hs7; clear hs7))
    (try simp only [Exit.inBlock, Exit.then])
    refine bodyPost_ret (results_box_tmp rfl rfl (loadVar_box HS7.out.at_ Try.underlying61 rfl info61)) rfl ?_
    rw [← HPE.out]
    exact ⟨rfl, HS7.out.then_ HW3.out hgl⟩
  | false =>
    have h := HD.out
    rw [Bool.or_eq_false_iff, decide_eq_false_iff_not, decide_eq_false_iff_not] at h
    obtain ⟨k, rfl⟩ : ∃ k : Nat, j = k := ⟨j.toNat, by omega⟩
    have hk : k < n := by omega
    have e := HP.out
    unfold atE at e
    rw [if_pos (by rw [hl]; omega), show ((k : Nat) : Int).toNat = k from rfl] at e
    obtain ⟨z, hz⟩ : ∃ z, xs.getD k e0 = z := ⟨_, rfl⟩
    rw [hz] at e
    have HPE := Lib.hid e
    obtain ⟨ad, rfl, hc⟩ := HS1.out.row (by omega)
    have hcell := hc k (xs.getD k e0) (by rw [List.getD_eq_getElem?_getD, List.getElem?_eq_getElem (by omega)]; rfl)
    rw [hz] at hcell
    have HC := Lib.hid hcell
    have hc1 : w1.cell? ⟨p, 1, none⟩ = some (.slice (some ad) n c) := by have h := HBB.out; simp [World.cell?, h]
    clear h hc hcell HP HD hz e HS1 HBB
    go_wp2_with (first
      | (refine wpList_index_st rfl 59 _ _ rfl stEn rfl rfl rfl hk ?_)
      | (refine wpList_load_at rfl 61 (.tmp 28) rfl _ z.cells rfl HC.out Try.underlying61 rfl info61 ?_)
      | (refine wpList_store_box rfl 61 (.tmp 4) (.tmp 29) rfl g z.cells rfl rfl HX2.out rfl info61 rfl ?_; intro w7 hs7; have HS7 := Lib.hid hs7; clear hs7))
    (try simp only [Exit.inBlock, Exit.then])
    refine bodyPost_ret (results_box_tmp rfl rfl (loadVar_box HS7.out.at_ Try.underlying61 rfl info61)) rfl ?_
    rw [← HPE.out]
    exact ⟨rfl, HS7.out.then_ HW.out hgl⟩
end Go.Proofs.Ytnkeijdpjcclcaa.Mem
-- EntD
/- mem.Sorted of entries: Put where nothing stands, a new one; slices.Clone of entries. -/
namespace Go.Proofs.Ytnkeijdpjcclcaa.Mem
set_option linter.unusedVariables false
set_option linter.unusedSimpArgs false
open Go.Proofs.Ytnkeijdpjcclcaa.Kit Go.Proofs.Ytnkeijdpjcclcaa.Num Go.RowKit Go.Proofs.YtnkeijdpjcclcaaW.PrintWords Go.Proofs.YtnkeijdpjcclcaaW.PrintLast Go.Proofs.YtnkeijdpjcclcaaW.PrintMore NumPure Key
theorem op_lit1v {P : Program} {o : Oper} {l : List (Nat × Value)} {x : Operand} {t e : TypeId} {k bytes : Nat} {z v : Value} {w : World} (T : EType P t e k bytes z) (hk24 : k ≤ 16777216) (ho : o.op = .buildSlice t 1 #[(0, x)]) {cs : List Value} (hx : lk l x = v)
    (hfill : Instr.fill (fun i => some (i * k, k)) ((Array.range (1 * k)).map (z.cells[· % z.cells.size]!)) [(0, v)] = some cs.toArray) :
    (execOp (lk l) o).run P w = .ok (.value (.slice (some ⟨w.heap.size, 0, none⟩) 1 1)) (w.alloc (.cells cs.toArray e)) := by
  have hi := T.info
  have hp := T.pos
  cases hq : P.info? e with
  | none => rw [hq] at hi; simp at hi
  | some i =>
    rw [hq] at hi
    simp only [Option.map_some, Option.some.injEq, Prod.mk.injEq] at hi
    obtain ⟨i1, i2, i3⟩ := hi
    have hrun := run_buildSlice (P := P) w t e 1 #[(0, v)] cs.toArray i z T.und hq i1 (by rw [i2]; omega) (by rw [i2]; omega) (by rw [i2]; exact hfill)
    unfold execOp
    simp only [ho, Sem.run_bind, List.map_toArray, List.map_cons, List.map_nil, hx, hrun, Result.andThen_ok, Sem.run_pure]
theorem fillE (x : Ent) : Instr.fill (fun i => some (i * kE, kE)) ((Array.range (1 * kE)).map (zE.cells[· % zE.cells.size]!)) [(0, x.ag)] = some (encE x).toArray := by
  simp [Instr.fill, Value.cells, Array.range, kE, Ent.ag, encE, Ent.cells, zE]
  rfl
/-- One more, in its place. -/
def insL (xs : List Ent) (x : Ent) : List Ent := xs.take (pos Ent.cmp xs x) ++ [x] ++ xs.drop (pos Ent.cmp xs x)
theorem reg_64_3 : RegOk (opsOf Try.f64 3) [[], [0], [0, 1], [0, 1, 2], [], [], [5], [5, 6], [5, 6, 7], [0, 1, 2, 3, 4, 5, 6, 7, 8], [0, 1, 2, 3, 4, 5, 6, 7, 8, 9], [0, 1, 2, 3, 4, 5, 6, 7, 8, 9, 10], [0, 1, 2, 3, 4, 5, 6, 7, 8, 9, 10], [0, 1, 2, 3, 4, 5, 6, 7, 8, 9, 10, 11], [0, 1, 2, 3, 4, 5, 6, 7, 8, 9, 10, 11, 12, 13]] [] [some 10, some 11, some 12, some 13, some 14, some 15, some 16, some 17, some 18, some 19, some 9, some 20, some 21, some 5, some 6] := regOk (by kernel_rfl)
theorem reg_64_6 : RegOk (opsOf Try.f64 6) [[], [], [1], [1, 2], [1, 2, 3], [], [], [6], [1, 2, 3, 4, 5, 6, 7], [0, 1, 2, 3, 4, 5, 6, 7, 8], [0, 1, 2, 3, 4, 5, 6, 7, 8, 9], [0, 1, 2, 3, 4, 5, 6, 7, 8, 9, 10]] [8, 11] [some 30, some 31, some 32, some 33, some 34, some 35, some 36, some 37, some 38, some 39, some 40, none] := regOk (by kernel_rfl)
set_option maxRecDepth 20000 in
set_option maxHeartbeats 1600000 in
theorem putE_any (w : World) {B p : Nat} {v : Value} {xs : List Ent} (x : Ent) (h : SOE w B p v xs) (hB : B ≤ w.heap.size) (hn : xs.length ≤ 1000000) (hok : ∀ y ∈ xs, Ent.ok y) (hx : Ent.ok x) (hm : Mono Ent.cmp xs x) (hh : hit Ent.cmp xs x = false) : Calls Try.prog 64 #[.pointer (some ⟨p, 0, none⟩), x.ag] w fun e w' => e = .returned (.bool false) ∧ ∃ v', SOE w' B p v' (insL xs x) ∧ Gr2 w w' p v.ownBlock ∧ Goes w v v' := by
  have HSO0 := Lib.hid h
  obtain ⟨A, n, c, rfl, hnc, HL, hmx, hs⟩ := ownk_open encE_len h.own
  have hl := HL.out
  have HBX0 := Lib.hid h.box
  have HS := Lib.hid hs
  have hne := h.ne
  have hbase := h.base
  have hlt := ownk_lt h.own
  have hpl := pos_le Ent.cmp xs x
  have HC := Lib.hid (fun W (hW : Below w.heap.size w W) => bsfE_any A n c xs x W (by omega) (sts_below HS.out hW) hm hok hx)
  have HX0 := Lib.hid (heap_alloc_new w (.cells x.cells.toArray 61))
  have HA0 := Lib.hid (below_alloc (Below.refl w.heap.size w) (.cells x.cells.toArray 61))
  obtain ⟨ys, hys⟩ : ∃ ys, insL xs x = ys := ⟨_, rfl⟩
  rw [hys]
  unfold insL at hys
  rw [hh] at HC
  clear h hs hok hx hm hh
  generalize pos Ent.cmp xs x = po at *
  have HY := Lib.hid hys
  clear hys
  show Calls Try.prog 64 #[.pointer (some ⟨p, 0, none⟩), .agg x.cells.toArray] w _
  go_enter Try.func64, Try.ntmps64
  go_upto_region 1 with fail
  have HBX := Lib.hid (box_stays HBX0.out HA0.out)
  have HSO := Lib.hid (soe_below HSO0.out HA0.out)
  generalize w.alloc (.cells x.cells.toArray 61) = w0 at HX0 HA0 HBX HSO ⊢
  obtain ⟨bx, hbx⟩ : ∃ bx, w.heap.size = bx := ⟨_, rfl⟩
  rw [hbx] at HX0 ⊢
  clear hbx
  go_upto_region 3 with fail
  refine draws_ (fun wq => Below w0.heap.size w0 wq) (fun _ => True) (by kernel_rfl) reg_64_3 rfl inv0 (fun _ _ _ _ => trivial) (below_drew (Below.refl _ _)) trivial ?_
  refine w_move (.inl rfl) (fun vs w hK => ⟨wants_none rfl, rho_out rfl rfl⟩) ?_
  refine w_val [(10, _)] _ (fun vs w hK => ⟨wants_none rfl, rho_in rfl (fv (hK 0 (memE rfl))), trivial⟩) rfl (fun wq hI => by simp only [execOp, Option.map_some, Option.map_none, lk_tmp, lk_const, lkT_cons, ↓reduceIte, Nat.reduceEqDiff]; go_simp; (first | done | rfl)) ?_
  refine w_val [(11, _)] (_) (fun vs w hK => ⟨wants_none rfl, rho_in rfl (fv (hK 1 (memE rfl))), trivial⟩) rfl (fun wq hI => by exact op_field rfl rfl Try.underlying101 rfl rfl rfl info59 (by decide)) ?_
  refine w_val [(12, _)] (.slice A n c) (fun vs w hK => ⟨wants_none rfl, rho_in rfl (fv (hK 2 (memE rfl))), trivial⟩) rfl (fun wq hI => by exact run_load_cell (ad := ⟨p, 1, none⟩) rfl rfl rfl Try.underlying59 rfl (by have := box_stays HBX.out hI; simp [World.cell?, this])) ?_
  refine w_val [(3, _)] (x.ag) (fun vs w hK => ⟨wants_none rfl, rho_out rfl rfl, trivial⟩) rfl (fun wq hI => by exact run_load_op rfl rfl (load_ent (box_stays HX0.out hI))) ?_
  refine w_move (.inl rfl) (fun vs w hK => ⟨wants_none rfl, rho_out rfl rfl⟩) ?_
  refine w_val [(15, _)] _ (fun vs w hK => ⟨wants_none rfl, rho_in rfl (fv (hK 5 (memE rfl))), trivial⟩) rfl (fun wq hI => by simp only [execOp, Option.map_some, Option.map_none, lk_tmp, lk_const, lkT_cons, ↓reduceIte, Nat.reduceEqDiff]; go_simp; (first | done | rfl)) ?_
  refine w_val [(16, _)] (_) (fun vs w hK => ⟨wants_none rfl, rho_in rfl (fv (hK 6 (memE rfl))), trivial⟩) rfl (fun wq hI => by exact op_field rfl rfl Try.underlying101 rfl rfl rfl info95 (by decide)) ?_
  refine w_val [(17, _)] (.func (.func 32) #[] #[]) (fun vs w hK => ⟨wants_none rfl, rho_in rfl (fv (hK 7 (memE rfl))), trivial⟩) rfl (fun wq hI => by exact run_load_cell (ad := ⟨p, 0, none⟩) rfl rfl rfl Try.underlying95 rfl (by have := box_stays HBX.out hI; simp [World.cell?, this])) ?_
  refine w_call [(13, _), (14, _), (18, _)] _ _ (by decide) (fun vs w hK => ⟨wants_none rfl, rho_in rfl (fv (hK 3 (memE rfl))), rho_in rfl (fv (hK 4 (memE rfl))), rho_in rfl (fv (hK 8 (memE rfl))), trivial⟩) rfl rfl Try.func72 (by kernel_rfl) rfl (fun wq hI => HC.out wq (below_then HA0.out HA0.out.size hI)) (margs rfl) ?_
  refine w_move (.inl rfl) (fun vs w hK => ⟨wants_none rfl, rho_in rfl (fv (hK 9 (memE rfl)))⟩) ?_
  refine w_val [(9, _)] _ (fun vs w hK => ⟨wants_none rfl, rho_in rfl (fv (hK 10 (memE rfl))), trivial⟩) rfl (fun wq hI => by simp only [execOp, Option.map_some, Option.map_none, lk_tmp, lk_const, lkT_cons, ↓reduceIte, Nat.reduceEqDiff]; go_simp; (first | done | rfl)) ?_
  refine w_val [(9, _)] _ (fun vs w hK => ⟨wants_none rfl, rho_in rfl (fv (hK 10 (memE rfl))), trivial⟩) rfl (fun wq hI => by simp only [execOp, Option.map_some, Option.map_none, lk_tmp, lk_const, lkT_cons, ↓reduceIte, Nat.reduceEqDiff]; go_simp; (first | done | rfl)) ?_
  refine w_move (.inr rfl) (fun vs w hK => ⟨wants_none rfl, rho_in rfl (fv (hK 11 (memE rfl)))⟩) ?_
  refine w_move (.inr rfl) (fun vs w hK => ⟨wants_none rfl, rho_in rfl (fv (hK 12 (memE rfl)))⟩) ?_
  refine w_end rfl rfl rfl (fun vs wq hI hF => ?_)
  simp only [List.reverse_cons, List.reverse_nil, List.nil_append, List.cons_append, finL_val, finL_of, finL_any, finL_app, finL_new, finL_gr, finL_row, finL_box, finL_nil, Act.put, List.setIfInBounds_toArray, List.set_cons_zero, List.set_cons_succ, Nat.reduceAdd]
  have HW := Lib.hid (below_then HA0.out HA0.out.size hI)
  have HX1 := Lib.hid (box_stays HX0.out hI)
  have HS1 := Lib.hid (soe_below HSO.out hI)
  clear hI hF HC HX0 HA0
  obtain ⟨w1, rfl⟩ : ∃ w1 : World, w1 = wq := ⟨_, rfl⟩
  have hw1 := HW.out.size
  clear HSO HBX HS HBX0 HSO0
  go_upto_region 6 with fail
  refine draws_ (fun W => Gr2 w W p (Value.slice A n c).ownBlock) (fun W => SOE W B p (.slice A n c) xs ∧ w.heap.size ≤ W.heap.size ∧ W.heap[bx]? = some (.cells x.cells.toArray 61)) (by kernel_rfl) reg_64_6 rfl (fun _ _ h k => gr2_then h k) (fun _ _ h k => ⟨soe_below h.1 k, Nat.le_trans h.2.1 k.size, box_stays h.2.2 k⟩) (gr2_below (below_drew HW.out)) ⟨soe_below HS1.out (below_drew (Below.refl _ _)), hw1, HX1.out⟩ ?_
  refine w_move (.inl rfl) (fun vs w hK => ⟨wants_none rfl, rho_out rfl rfl⟩) ?_
  refine w_move (.inl rfl) (fun vs w hK => ⟨wants_none rfl, rho_out rfl rfl⟩) ?_
  refine w_val [(31, _)] _ (fun vs w hK => ⟨wants_none rfl, rho_in rfl (fv (hK 1 (memE rfl))), trivial⟩) rfl (fun wq hI => by simp only [execOp, Option.map_some, Option.map_none, lk_tmp, lk_const, lkT_cons, ↓reduceIte, Nat.reduceEqDiff]; go_simp; (first | done | rfl)) ?_
  refine w_val [(32, _)] (_) (fun vs w hK => ⟨wants_none rfl, rho_in rfl (fv (hK 2 (memE rfl))), trivial⟩) rfl (fun wq hI => by exact op_field rfl rfl Try.underlying101 rfl rfl rfl info59 (by decide)) ?_
  refine w_anyJ (.val (.slice A n c)) (by decide) (fun vs wq hI hJ hK => ?_) ?_
  · have hA := (hJ (by decide)).1.box
    exact ob_run [(33, .pointer (some ⟨p, 1, none⟩))] (wants_none rfl) ⟨rho_in rfl (fv (hK 3 (memE rfl))), trivial⟩ rfl (run_load_cell (ad := ⟨p, 1, none⟩) rfl rfl rfl Try.underlying59 rfl (by simp [World.cell?, hA])) ⟨Below.refl _ _, rfl⟩
  refine w_move (.inl rfl) (fun vs w hK => ⟨wants_none rfl, rho_out rfl rfl⟩) ?_
  refine w_anyJ (.val x.ag) (by decide) (fun vs wq hI hJ hK => ?_) ?_
  · have hA := (hJ (by decide)).2.2
    exact ob_run [(3, .pointer (some ⟨bx, 0, none⟩))] (wants_none rfl) ⟨rho_out rfl rfl, trivial⟩ rfl (run_load_op rfl rfl (load_ent hA)) ⟨Below.refl _ _, rfl⟩
  refine w_anyJ (FW.of (fun v' W => ∃ b, v' = .slice (some ⟨b, 0, none⟩) 1 1 ∧ w.heap.size ≤ b ∧ W.heap[b]? = some (.cells (encE x).toArray 61 (0, 0))) (fun _ _ _ h hb => h.elim fun b h => ⟨b, h.1, h.2.1, box_stays h.2.2 hb⟩)) (by decide) (fun vs wq hI hJ hK => ?_) ?_
  · have hA := (hJ (by decide)).2.1
    exact ob_run [(36, x.ag)] (wants_none rfl) ⟨rho_in rfl (fv (hK 6 (memE rfl))), trivial⟩ rfl (op_lit1v (v := x.ag) (cs := encE x) etE (by decide) rfl rfl (fillE x)) ⟨below_alloc (Below.refl _ _) _, _, rfl, hA, heap_alloc_new _ _⟩
  refine w_lin (FW.of (fun v' W => OwnK encE kE 61 W B v' ys ∧ v'.ownBlock ≠ some p ∧ Goes w (.slice A n c) v' ∧ W.heap[p]? = some (.cells [Value.func (.func 32) #[] #[], .slice A n c].toArray 101 (0, 0))) (fun _ _ _ h hb => ⟨ownk_below h.1 hb, h.2.1, h.2.2.1, box_stays h.2.2.2 hb⟩)) (by decide) (fun vs wq hI hJ hK => ?_) ?_
  · obtain ⟨hA, hA2⟩ := hJ (by decide) (by decide)
    obtain ⟨b, e7, hb7, hc7⟩ : ∃ b, vs 7 = .slice (some ⟨b, 0, none⟩) 1 1 ∧ w.heap.size ≤ b ∧ wq.heap[b]? = some (.cells (encE x).toArray 61 (0, 0)) := hK 7 (memE rfl)
    refine ob_call [(34, .slice A n c), (35, .int .i64 (po : Nat)), (37, .slice (some ⟨b, 0, none⟩) 1 1)] _ (wants_none rfl) ⟨rho_in rfl (fv (hK 4 (memE rfl))), rho_in rfl (fv (hK 5 (memE rfl))), rho_in rfl e7, trivial⟩ rfl rfl Try.func73 (by kernel_rfl) rfl (margs rfl) ((insE_any (.slice A n c) xs po x b wq hA.own hc7 (fun e => by have := hlt b e; omega) hpl (by omega) hn).mono ?_)
    rintro e w' ⟨v1, rfl, k1, k2⟩
    rw [HY.out] at k1
    refine ⟨v1, rfl, gr2_grown hI k2.grown, k1, ?_, ?_, ?_⟩
    · rcases k2.at_ with g | ⟨b, g, hb⟩
      · rw [g]; exact hne
      · rw [g]
        intro he
        injection he with he
        have := mk_lt hA.box
        omega
    · rcases k2.at_ with g | ⟨b, g, hb⟩
      · exact .inl g
      · exact .inr ⟨b, g, by omega⟩
    · rw [k2.grown.block p (mk_lt hA.box) (Ne.symm hne)]
      exact hA.box
  refine w_val [(30, _)] _ (fun vs w hK => ⟨wants_none rfl, rho_in rfl (fv (hK 0 (memE rfl))), trivial⟩) rfl (fun wq hI => by simp only [execOp, Option.map_some, Option.map_none, lk_tmp, lk_const, lkT_cons, ↓reduceIte, Nat.reduceEqDiff]; go_simp; (first | done | rfl)) ?_
  refine w_val [(39, _)] (_) (fun vs w hK => ⟨wants_none rfl, rho_in rfl (fv (hK 9 (memE rfl))), trivial⟩) rfl (fun wq hI => by exact op_field rfl rfl Try.underlying101 rfl rfl rfl info59 (by decide)) ?_
  refine w_lin (FW.of (fun _ W => ∃ v', SOE W B p v' ys ∧ Goes w (.slice A n c) v') (fun _ _ _ h hb => h.elim fun v' h => ⟨v', soe_below h.1 hb, h.2⟩)) (by decide) (fun vs wq hI hJ hK => ?_) ?_
  · obtain ⟨k1, k2, k3, k4⟩ : OwnK encE kE 61 wq B (vs 8) ys ∧ (vs 8).ownBlock ≠ some p ∧ Goes w (.slice A n c) (vs 8) ∧ wq.heap[p]? = some (.cells [Value.func (.func 32) #[] #[], .slice A n c].toArray 101 (0, 0)) := hK 8 (memE rfl)
    obtain ⟨A8, n8, c8, e8, _⟩ := ownk_open encE_len k1
    exact ob_store_blk [(40, .pointer (some ⟨p, 1, none⟩)), (38, vs 8)] (wants_none rfl) ⟨rho_in rfl (fv (hK 10 (memE rfl))), rho_in rfl rfl, trivial⟩ rfl rfl rfl rfl (by rw [e8]; rfl) k4 (by show 1 < 2; omega) info59 (fun w' hs => ⟨gr2_set hI hs, vs 8, ⟨hs.at_, ownk_move k1 (fun j hj => hs.other j (fun e => k2 (by rw [hj, e]))), k2, hbase⟩, k3⟩)
  refine w_end rfl rfl rfl (fun vs wq hI hF => ?_)
  simp only [List.reverse_cons, List.reverse_nil, List.nil_append, List.cons_append, finL_val, finL_of, finL_any, finL_app, finL_new, finL_gr, finL_row, finL_box, finL_nil, Act.put, List.setIfInBounds_toArray, List.set_cons_zero, List.set_cons_succ, Nat.reduceAdd]
  have HI2 := Lib.hid hI
  have HF2 : Hid (∃ v', SOE wq B p v' ys ∧ Goes w (.slice A n c) v') := Lib.hid (hF 11 (by decide) rfl)
  clear hI hF
  go_wp2_with fail
  go_ret
  obtain ⟨v', h1, h2⟩ := HF2.out
  exact ⟨rfl, v', h1, HI2.out, h2⟩
theorem op_func_nil {P : Program} {o : Oper} {l : List (Nat × Value)} {x : Operand} {t : TypeId} {m : Nat} {f : Fn} {ta cp : Array Value} {w : World} {ps rs : Array TypeId} {vd : Bool} (ho : o.op = .binOp .eql t x (.const .nilFunc) m) (hx : lk l x = .func f ta cp) (hu : P.underlying t = some (.func ps rs vd)) : (execOp (lk l) o).run P w = .ok (.value (.bool false)) w := by
  have he : ∀ d, (Op.equalIn (d + 1) t (.func f ta cp) .nilFunc).run P w = .ok false w := fun d => by simp [Op.equalIn, run_underlying hu]
  have e2 : (Op.equal t (.func f ta cp) .nilFunc).run P w = .ok false w := he 9999
  have e3 : (binOp .eql t (.func f ta cp) .nilFunc).run P w = .ok (.bool false) w := by
    show ((do pure (.bool (← Op.equal t (.func f ta cp) .nilFunc)) : Sem Value)).run P w = _
    simp only [Sem.run_bind, e2, Result.andThen_ok, Sem.run_pure]
  have hy : lk l (.const .nilFunc) = .nilFunc := rfl
  have hg : eqGuard .eql t x (.const .nilFunc) (.func f ta cp) .nilFunc = pure () := rfl
  unfold execOp
  simp only [ho, hx, hy, hg, Sem.run_bind, Result.andThen_ok, e3, Sem.run_pure]
theorem op_nil_nil {P : Program} {o : Oper} {l : List (Nat × Value)} {x : Operand} {t : TypeId} {m : Nat} {w : World} {ps rs : Array TypeId} {vd : Bool} (ho : o.op = .binOp .eql t x (.const .nilFunc) m) (hx : lk l x = .nilFunc) (hu : P.underlying t = some (.func ps rs vd)) : (execOp (lk l) o).run P w = .ok (.value (.bool true)) w := by
  have he : ∀ d, (Op.equalIn (d + 1) t (.nilFunc) .nilFunc).run P w = .ok true w := fun d => by simp [Op.equalIn, run_underlying hu]
  have e2 : (Op.equal t (.nilFunc) .nilFunc).run P w = .ok true w := he 9999
  have e3 : (binOp .eql t (.nilFunc) .nilFunc).run P w = .ok (.bool true) w := by
    show ((do pure (.bool (← Op.equal t (.nilFunc) .nilFunc)) : Sem Value)).run P w = _
    simp only [Sem.run_bind, e2, Result.andThen_ok, Sem.run_pure]
  have hy : lk l (.const .nilFunc) = .nilFunc := rfl
  have hg : eqGuard .eql t x (.const .nilFunc) (.nilFunc) .nilFunc = pure () := rfl
  unfold execOp
  simp only [ho, hx, hy, hg, Sem.run_bind, Result.andThen_ok, e3, Sem.run_pure]
theorem op_lit0 {P : Program} {o : Oper} {l : List (Nat × Value)} {t e : TypeId} {k bytes : Nat} {z : Value} {w : World} (T : EType P t e k bytes z) (ho : o.op = .buildSlice t 0 #[]) :
    (execOp (lk l) o).run P w = .ok (.value (.slice (some ⟨w.heap.size, 0, none⟩) 0 0)) (w.alloc (.cells #[] e)) := by
  have hi := T.info
  cases hq : P.info? e with
  | none => rw [hq] at hi; simp at hi
  | some i =>
    rw [hq] at hi
    simp only [Option.map_some, Option.some.injEq, Prod.mk.injEq] at hi
    obtain ⟨i1, i2, i3⟩ := hi
    have hrun : (Instr.buildSlice t 0 #[]).run P w = .ok (.slice (some ⟨w.heap.size, 0, none⟩) 0 0) (w.alloc (.cells #[] e)) := by
      simp [Instr.buildSlice, run_underlying T.und, sizeOf, typeInfo, hq, Instr.fill, newRow]
      congr 2
      exact Array.eq_empty_of_size_eq_zero (by simp)
    unfold execOp
    simp only [ho, Sem.run_bind, List.map_toArray, List.map_nil, hrun, Result.andThen_ok, Sem.run_pure]
/-- append(v, x...), x whatever slice. -/
theorem ownk_runA {α : Type} {enc : α → List Value} {k : Nat} {e : TypeId} {P : Program} {t : TypeId} {bytes : Nat} {z : Value} (hk : ∀ x, (enc x).length = k) (h1 : ∀ x, ∀ u ∈ enc x, u.oneCell' = true) (T : EType P t e k bytes z) (ty : TypeId)
    {W : World} {B : Nat} {v : Value} {xs ys : List α} {A : Option Addr} {m c : Nat}
    (HO : OwnK enc k e W B v xs) (HR : Sts enc k W A m ys) (hbase : B ≤ W.heap.size) (hl : (xs.length + m) * bytes ≤ 140737488355328) (hl2 : xs.length + m ≤ 9223372036854775807) :
    ∃ v1 w1, (Builtin.append_ #[t, t] ty #[v, .slice A m c]).run P W = .ok v1 w1 ∧ OwnK enc k e w1 B v1 (xs ++ ys) ∧ Fr W w1 v v1 := by
  cases A with
  | some ad => exact ownk_run (c := c) hk h1 T ty HO HR hbase hl hl2
  | none =>
    have hm : m = 0 := by
      rcases Nat.eq_zero_or_pos m with g | g
      · exact g
      · obtain ⟨ad, e1, _⟩ := HR.row g
        cases e1
    subst hm
    obtain rfl : ys = [] := List.eq_nil_of_length_eq_zero HR.len
    obtain ⟨A', n', c', rfl, hnc, HL, _, _⟩ := ownk_open hk HO
    have hsz := (etype_st T).size
    rw [List.append_nil]
    cases hq : P.info? e with
    | none => simp [hq] at hsz
    | some i =>
      refine ⟨_, W, ?_, HO, Fr.refl _ _⟩
      cases A' with
      | none => simp [Builtin.append_, run_underlying T.und, Builtin.lenOf, Builtin.firstCells, sizeOf, typeInfo, hq, hnc]
      | some a => simp [Builtin.append_, run_underlying T.und, Builtin.lenOf, Builtin.firstCells, sizeOf, typeInfo, hq, hnc, storeCells]
theorem reg_61_1 : RegOk (opsOf Try.f61 1) [[], [0]] [] [some 3, some 4] := regOk (by kernel_rfl)
theorem newE_any (w : World) : Calls Try.prog 61 #[.func (.func 32) #[] #[]] w fun e w' => e = .returned (.pointer (some ⟨w'.heap.size - 1, 0, none⟩)) ∧ w.heap.size ≤ w'.heap.size - 1 ∧ SOE w' w.heap.size (w'.heap.size - 1) (.slice none 0 0) [] ∧ Below w.heap.size w w' := by
  go_enter Try.func61, Try.ntmps61
  go_upto_region 1 with fail
  refine plain_ (fun wq => Below w.heap.size w wq) (fun _ => True) reg_61_1 rfl inv0 (fun _ _ _ _ => trivial) (Below.refl _ _) trivial ?_
  refine w_move (.inl rfl) (fun vs w hK => ⟨wants_none rfl, rho_out rfl rfl⟩) ?_
  refine w_val [(3, _)] (.bool false) (fun vs w hK => ⟨wants_none rfl, rho_in rfl (fv (hK 0 (memE rfl))), trivial⟩) rfl (fun wq hI => by exact op_func_nil rfl rfl Try.underlying95) ?_
  refine w_end rfl rfl rfl (fun vs wq hI hF => ?_)
  simp only [List.reverse_cons, List.reverse_nil, List.nil_append, List.cons_append, finL_val, finL_of, finL_any, finL_app, finL_new, finL_gr, finL_row, finL_box, finL_nil, Act.put, List.setIfInBounds_toArray, List.set_cons_zero, List.set_cons_succ, Nat.reduceAdd]
  have HW := Lib.hid hI
  clear hI hF
  obtain ⟨w1, rfl⟩ : ∃ w1 : World, w1 = wq := ⟨_, rfl⟩
  go_wp2_with fail
  go_ret
  have hs : (w1.alloc (.cells #[Value.func (.func 32) #[] #[], .slice none 0 0] 101)).heap.size = w1.heap.size + 1 := Array.size_push _
  have hb := HW.out.size
  rw [hs, Nat.add_sub_cancel]
  exact ⟨rfl, hb, ⟨heap_alloc_new w1 _, ownk_nil _ _ _ _ _, by simp [Value.ownBlock], hb⟩, below_then HW.out hb (below_alloc (Below.refl _ _) _)⟩
end Go.Proofs.Ytnkeijdpjcclcaa.Mem
-- Dep
/- Regions that draw their order, with facts that look at what came up before (an alloc's pointer and the store through it). -/
namespace Go.Proofs.Ytnkeijdpjcclcaa.Kit
set_option linter.unusedVariables false
set_option linter.unusedSimpArgs false
open Go.RowKit Go.Proofs.YtnkeijdpjcclcaaW.PrintWords Go.Proofs.YtnkeijdpjcclcaaW.PrintLast Go.Proofs.YtnkeijdpjcclcaaW.PrintMore

section
variable {P : Program} {ops : Array Oper} {Q : Exit → Act → World → Prop}
/-- The state in the midst of a drawn order. L: the operations that write in turn (each one's fact serves the next alone). -/
structure MidD (ops : Array Oper) (D : List (List Nat)) (L : List Nat) (Inv J : World → Prop) (F : (Nat → Value) → Nat → World → Prop) (fx : Nat → Bool) (a0 : Act) (vs : Nat → Value) (l : Array Bool) (a : Act) (w : World) : Prop where
  size : l.size = ops.size
  tsz : a.tmps.size = a0.tmps.size
  dfr : a.defers = a0.defers
  out : ∀ t, (∀ i, l.getD i false = true → dstOf ops i ≠ some t) → a.tmps[t]? = a0.tmps[t]?
  mem : ∀ i t, l.getD i false = true → dstOf ops i = some t → t < a0.tmps.size → a.tmps[t]? = some (vs i)
  shut : ∀ i, l.getD i false = true → ∀ j ∈ D.getD i [], l.getD j false = true
  inv : Inv w
  head : (∀ k ∈ L, l.getD k false = false) → J w
  facts : ∀ i, l.getD i false = true → (i ∈ L → ∀ k ∈ L, l.getD k false = true → k ≤ i) → (fx i = true ∨ i ∈ L ∨ ∀ q ∈ L, ¬ l.getD q false = true) → F vs i w
/-- In the midst of an order, an operation that may come up: its obligation in the text's order serves. -/
theorem midD_ob {D : List (List Nat)} {L : List Nat} {Inv J : World → Prop} {F : (Nat → Value) → Nat → World → Prop} {fx : Nat → Bool} {a0 a : Act} {vs : Nat → Value} {l : Array Bool} {w : World} {dsts : List (Option Tmp)} {R : Value → World → Prop} (hC : Chk ops D) (hd : ops.toList.map (·.dst) = dsts)
    (hsz : ∀ j t, dstOf ops j = some t → t < a0.tmps.size) (hM : MidD ops D L Inv J F fx a0 vs l a w) {i : Nat} {o : Oper} (ho : ops[i]? = some o) (hun : ¬ l.getD i false = true) (hds : ∀ j ∈ D.getD i [], l.getD j false = true)
    (hg : ∀ g want, o.guard = some (g, want) → g ∈ D.getD i [] ∧ (dstOf ops g).isSome = true)
    (h : Ob P (dsts.take i) o vs a0 w R) : Yl P ops o a w R := by
  have hil : i < ops.size := (Array.getElem?_eq_some_iff.1 ho).1
  have e1 : execOp a.eval o = execOp (rho (dsts.take i) vs a0) o := execOp_congr o (fun cs b => hC.sel i o cs b ho) fun x hx => by
    cases x with
    | tmp t =>
      have ht : t ∈ o.looksAt ops := List.mem_append_left _ (List.mem_filterMap.2 ⟨.tmp t, by simpa using hx, rfl⟩)
      show a.tmps.getD t undef = (match srcOf (dsts.take i) 0 t with | some j => vs j | none => a0.tmps.getD t undef)
      cases hs : srcOf (dsts.take i) 0 t with
      | some j =>
        obtain ⟨_, h2⟩ := srcOf_some hs
        rw [Nat.sub_zero] at h2
        obtain ⟨hji, hj⟩ := (dsts_at hd i j t).1 h2
        have hjl : l.getD j false = true := by
          rcases hC.look i j o t ho hj ht (by omega) with h | h
          · exact hds j h
          · have := (hC.dep j i (dst_lt hj) h).1
            omega
        have := hM.mem j t hjl hj (hsz j t hj)
        simp [this]
      | none =>
        have hout : ∀ j, l.getD j false = true → dstOf ops j ≠ some t := fun j hjl hj => by
          by_cases hij : i = j
          · subst hij; exact hun hjl
          · rcases hC.look i j o t ho hj ht hij with h | h
            · exact srcOf_none hs j ((dsts_at hd i j t).2 ⟨(hC.dep i j hil h).1, hj⟩)
            · exact hun (hM.shut j hjl i h)
        have := hM.out t hout
        simp [this]
    | _ => rfl
  have e2 : Region.wanted o (yielded ops a.tmps) = Wants o vs := by
    unfold Region.wanted Wants
    cases hgd : o.guard with
    | none => rfl
    | some gw =>
      obtain ⟨g, want⟩ := gw
      obtain ⟨h1, h2⟩ := hg g want hgd
      obtain ⟨d, hdd⟩ := Option.isSome_iff_exists.1 h2
      have hm := hM.mem g d (hds g h1) hdd (hsz g d hdd)
      have : yielded ops a.tmps g = (match vs g with | .bool b => some b | _ => none) := by
        unfold yielded
        have hdd' : (ops[g]?).bind (·.dst) = some d := hdd
        rw [hdd']
        simp only [Option.bind_some, hm]
        cases vs g <;> rfl
      simp only [this]
      cases vs g <;> rfl
  unfold Ob at h
  unfold Yl
  rw [e1, e2]
  exact h
theorem midD_next {D : List (List Nat)} {L : List Nat} {Inv J : World → Prop} {F : (Nat → Value) → Nat → World → Prop} {fx : Nat → Bool} {a0 a : Act} {vs : Nat → Value} {l : Array Bool} {w : World} (hC : Chk ops D)
    (hchain : ∀ i ∈ L, ∀ k ∈ L, i < k → i ∈ D.getD k []) (hcg : ∀ i vs vs' w, vs i = vs' i → (∀ j ∈ D.getD i [], vs j = vs' j) → F vs i w → F vs' i w) (hst : ∀ vs i w w', F vs i w → Below w.heap.size w w' → F vs i w') (hfx : ∀ vs i w w', i ∉ L → fx i = true → F vs i w → F vs i w') (hJs : ∀ w w', J w → Below w.heap.size w w' → J w')
    (hM : MidD ops D L Inv J F fx a0 vs l a w) {i : Nat} {o : Oper} (ho : ops[i]? = some o) (hun : ¬ l.getD i false = true) (hds : ∀ j ∈ D.getD i [], l.getD j false = true) {v : Value} {w' : World} (hI : Inv w') (hS : i ∉ L → Below w.heap.size w w') (hF : F (upd vs i v) i w') :
    MidD ops D L Inv J F fx a0 (upd vs i v) (l.setIfInBounds i true) (a.put o.dst v) w' := by
  have hil : i < ops.size := (Array.getElem?_eq_some_iff.1 ho).1
  have his : i < l.size := by rw [hM.size]; exact hil
  have hdo : dstOf ops i = o.dst := by simp [dstOf, ho]
  have hset : ∀ k, (l.setIfInBounds i true).getD k false = true → k = i ∨ l.getD k false = true := fun k hk => by
    by_cases hki : k = i
    · exact .inl hki
    · rw [getD_set_ne false (Ne.symm hki)] at hk
      exact .inr hk
  refine ⟨by rw [Array.size_setIfInBounds]; exact hM.size, by rw [put_size]; exact hM.tsz, by rw [put_defers]; exact hM.dfr, fun t ht => ?_, fun k t hk hkd htl => ?_, fun k hk j hj => ?_, hI, fun hno => ?_, fun k hk hmax => ?_⟩
  · rw [put_get, if_neg (fun hh => ht i (getD_set_self his) (by rw [hdo]; exact hh.1))]
    exact hM.out t (fun k hk => ht k (getD_set_true hk))
  · by_cases hki : k = i
    · subst hki
      rw [put_get, if_pos ⟨by rw [← hdo]; exact hkd, by rw [hM.tsz]; exact htl⟩, upd_same]
    · rw [put_get, if_neg (fun hh => hki (hC.dist k i t hkd (by rw [hdo]; exact hh.1))), upd_other _ _ hki]
      exact hM.mem k t ((hset k hk).resolve_left hki) hkd htl
  · rcases hset k hk with rfl | h
    · exact getD_set_true (hds j hj)
    · exact getD_set_true (hM.shut k h j hj)
  · by_cases hiL : i ∈ L
    · have := hno i hiL
      rw [getD_set_self his] at this
      cases this
    · refine hJs w w' (hM.head fun k hk => ?_) (hS hiL)
      have := hno k hk
      rwa [getD_set_ne false (show i ≠ k from fun h => hiL (by rw [h]; exact hk))] at this
  · intro hcond
    by_cases hki : k = i
    · subst hki
      exact hF
    · have hcong : ∀ W, F vs k W → F (upd vs i v) k W := fun W => hcg k vs (upd vs i v) W (upd_other _ _ hki).symm fun j hj => by
        have hjl := hM.shut k ((hset k hk).resolve_left hki) j hj
        exact (upd_other vs v (fun e => hun (by rw [← e]; exact hjl))).symm
      refine hcong w' ?_
      have hkl := (hset k hk).resolve_left hki
      by_cases hiL : i ∈ L
      · have hkL : k ∉ L := fun hkL => by
          have h1 := hmax hkL i hiL (getD_set_self his)
          exact hun (hM.shut k hkl i (hchain i hiL k hkL (by omega)))
        have hfk : fx k = true := by
          rcases hcond with h | h | h
          · exact h
          · exact absurd h hkL
          · exact absurd (getD_set_self his) (h i hiL)
        exact hfx _ k w w' hkL hfk (hM.facts k hkl (fun h => absurd h hkL) (.inl hfk))
      · exact hst _ k w w' (hM.facts k hkl (fun h k' hk' hl' => hmax h k' hk' (getD_set_true hl')) (hcond.imp id (Or.imp id fun h q hq hl => h q hq (getD_set_true hl)))) (hS hiL)
theorem midD_end {D : List (List Nat)} {L : List Nat} {Inv J : World → Prop} {F : (Nat → Value) → Nat → World → Prop} {fx : Nat → Bool} {a0 a : Act} {vs : Nat → Value} {l : Array Bool} {w : World} (hC : Chk ops D)
    (hM : MidD ops D L Inv J F fx a0 vs l a w) (hfull : ∀ i, i < ops.size → l.getD i false = true) : a = putN ops vs ops.size a0 := by
  refine act_ext (by rw [hM.tsz, putN_size]) (fun t => ?_) (by rw [hM.dfr, putN_defers])
  by_cases hx : ∃ i, dstOf ops i = some t
  · obtain ⟨i, hi⟩ := hx
    by_cases ht : t < a0.tmps.size
    · rw [hM.mem i t (hfull i (dst_lt hi)) hi ht, putN_in hC.dist vs a0 t i hi ht _ (dst_lt hi)]
    · rw [Array.getElem?_eq_none (by rw [hM.tsz]; omega), Array.getElem?_eq_none (by rw [putN_size]; omega)]
  · rw [hM.out t (fun i _ hi => hx ⟨i, hi⟩), putN_out vs a0 t _ (fun j _ hj => hx ⟨j, hj⟩)]
/-- All that is asked of a region's operations, in the text's order, at any world of Inv. -/
structure AllD (P : Program) (ops : Array Oper) (Q : Exit → Act → World → Prop) (D : List (List Nat)) (L : List Nat) (Inv J : World → Prop) (F : (Nat → Value) → Nat → World → Prop) (fx : Nat → Bool) (a0 : Act) (dsts : List (Option Tmp)) : Prop where
  chk : Chk ops D
  dst : ops.toList.map (·.dst) = dsts
  room : ∀ j t, dstOf ops j = some t → t < a0.tmps.size
  grd : ∀ i o g want, ops[i]? = some o → o.guard = some (g, want) → g ∈ D.getD i [] ∧ (dstOf ops g).isSome = true
  chain : ∀ i ∈ L, ∀ k ∈ L, i < k → i ∈ D.getD k []
  cong : ∀ i vs vs' w, vs i = vs' i → (∀ j ∈ D.getD i [], vs j = vs' j) → F vs i w → F vs' i w
  stay : ∀ vs i w w', F vs i w → Below w.heap.size w w' → F vs i w'
  fix : ∀ vs i w w', i ∉ L → fx i = true → F vs i w → F vs i w'
  jst : ∀ w w', J w → Below w.heap.size w w' → J w'
  step : ∀ i o, ops[i]? = some o → ∀ (vs : Nat → Value) (w : World), Inv w → (i ∈ L → (∀ k ∈ L, i ≤ k) → J w) → (earlyB D L i = true → J w) → (∀ j ∈ (D.getD i []).filter (fun j => useE D L (fx j) j i), F vs j w) → Ob P (dsts.take i) o vs a0 w (fun v w' => Inv w' ∧ (i ∉ L → Below w.heap.size w w') ∧ F (upd vs i v) i w')
  last : ∀ (vs : Nat → Value) (w : World), Inv w → (∀ i, i < ops.size → useE D L (fx i) i ops.size = true → F vs i w) → Q .normal (putN ops vs ops.size a0) w
theorem midD_go {D : List (List Nat)} {L : List Nat} {Inv J : World → Prop} {F : (Nat → Value) → Nat → World → Prop} {fx : Nat → Bool} {a0 a : Act} {dsts : List (Option Tmp)} {vs : Nat → Value} {l : Array Bool} {w : World} (H : AllD P ops Q D L Inv J F fx a0 dsts)
    (hM : MidD ops D L Inv J F fx a0 vs l a w) {i : Nat} {o : Oper} (ho : ops[i]? = some o) (hun : ¬ l.getD i false = true) (hds : ∀ j ∈ D.getD i [], l.getD j false = true) {K : Act → World → Prop}
    (hK : ∀ vs' a' w', MidD ops D L Inv J F fx a0 vs' (l.setIfInBounds i true) a' w' → K a' w') : wpOp P ops Q i K a w := by
  have hearly : earlyB D L i = true → ∀ q ∈ L, ¬ l.getD q false = true := fun he q hq hql => by
    rcases earlyB_spec he q hq with h | h
    · subst h; exact hun hql
    · exact hun (hM.shut q hql i h)
  exact (midD_ob H.chk H.dst H.room hM ho hun hds (fun g want hg => H.grd i o g want ho hg) (H.step i o ho vs w hM.inv (fun hiL hmin => hM.head fun k hk => by
    rw [← Bool.not_eq_true]
    intro hkl
    by_cases hik : k = i
    · exact hun (hik ▸ hkl)
    · exact hun (hM.shut k hkl i (H.chain i hiL k hk (by have := hmin k hk; omega)))) (fun he => hM.head fun k hk => by
    rw [← Bool.not_eq_true]
    exact hearly he k hk) (fun j hj => by
    obtain ⟨hj1, hj2⟩ := List.mem_filter.1 hj
    obtain ⟨hj2, hj3⟩ := useE_spec hj2
    refine hM.facts j (hds j hj1) (fun hjL k hkL hkl => ?_) (hj3.elim (fun h => .inr (.inl h)) fun h => h.elim (fun h => .inr (.inr (hearly h))) .inl)
    rcases useB_spec hj2 hjL k hkL with h | ⟨hiL, h⟩
    · exact h
    · exfalso
      rcases Nat.lt_or_ge i k with h2 | h2
      · exact hun (hM.shut k hkl i (H.chain i hiL k hkL h2))
      · obtain rfl : i = k := by omega
        exact hun hkl))).wpOp ho
    fun v w' ⟨hI, hS, hF⟩ => hK _ _ _ (midD_next H.chk H.chain H.cong H.stay H.fix H.jst hM ho hun hds hI hS hF)
/-- **Whatever order is drawn**: each operation's obligation is told once. -/
theorem anyD_go {D : List (List Nat)} {L : List Nat} {Inv J : World → Prop} {F : (Nat → Value) → Nat → World → Prop} {fx : Nat → Bool} {a0 : Act} {dsts : List (Option Tmp)} (H : AllD P ops Q D L Inv J F fx a0 dsts) :
    ∀ (fuel : Nat) (l : Array Bool) (vs : Nat → Value) (a : Act) (w : World), cnt l ops.size ≤ fuel → MidD ops D L Inv J F fx a0 vs l a w → wpAny P .any ops Q fuel l a w := by
  have hfin : ∀ (l : Array Bool) (vs : Nat → Value) (a : Act) (w : World), MidD ops D L Inv J F fx a0 vs l a w → (∀ i, i < ops.size → l.getD i false = true) → Q .normal a w := by
    intro l vs a w hM hfull
    rw [midD_end H.chk hM hfull]
    exact H.last vs w hM.inv (fun i hi hu => hM.facts i (hfull i hi) (fun hiL k hkL hkl => by
      rcases useB_spec (useE_spec hu).1 hiL k hkL with h | ⟨_, h⟩
      · exact h
      · have := getD_false_lt hkl
        rw [hM.size] at this
        omega) ((useE_spec hu).2.elim (fun h => .inr (.inl h)) fun h => h.elim (fun h => .inr (.inr fun q hq hql => by
          have hqs := getD_false_lt hql
          rw [hM.size] at hqs
          rcases earlyB_spec h q hq with h2 | h2
          · omega
          · have := (H.chk.dep q _ hqs h2).1
            omega)) .inl))
  have hdone : ∀ (l : Array Bool) (vs : Nat → Value) (a : Act) (w : World), MidD ops D L Inv J F fx a0 vs l a w → Region.ready .any ops l = [] → Q .normal a w := by
    intro l vs a w hM hr
    refine hfin l vs a w hM fun i => ?_
    induction i using Nat.strongRecOn with
    | _ i ih =>
      intro hi
      refine Classical.byContradiction fun hn => ?_
      have : i ∈ Region.ready .any ops l := mem_ready.2 ⟨getD_true_of_lt (by rw [hM.size]; exact hi) hn, _, Array.getElem?_eq_getElem hi, fun e he hb => by
        have h1 := H.chk.low i _ (Array.getElem?_eq_getElem hi) e he hb
        exact ih e.on h1 (by omega)⟩
      rw [hr] at this
      cases this
  intro fuel
  induction fuel with
  | zero =>
    intro l vs a w hf hM
    have hfull := cnt_zero (l := l) ops.size (by omega)
    refine ⟨?_, hfin l vs a w hM hfull⟩
    rw [List.eq_nil_iff_forall_not_mem]
    intro j hj
    obtain ⟨h0, o, ho, _⟩ := mem_ready.1 hj
    have hjl : j < ops.size := (Array.getElem?_eq_some_iff.1 ho).1
    have := hfull j hjl
    have hjs : j < l.size := by rw [hM.size]; exact hjl
    simp [hjs] at h0 this
    rw [this] at h0
    cases h0
  | succ fuel ih =>
    intro l vs a w hf hM
    refine ⟨hdone l vs a w hM, fun i hi => ?_⟩
    obtain ⟨h0, o, ho, hall⟩ := mem_ready.1 hi
    have hil : i < ops.size := (Array.getElem?_eq_some_iff.1 ho).1
    have his : i < l.size := by rw [hM.size]; exact hil
    have hun : ¬ l.getD i false = true := by
      simp [his] at h0 ⊢
      exact h0
    have hds : ∀ j ∈ D.getD i [], l.getD j false = true := fun j hj => by
      obtain ⟨hlt, o', ho', e, he, hb, hor⟩ := H.chk.dep i j hil hj
      rw [ho] at ho'
      injection ho' with ho'
      subst ho'
      have h1 := hall e he hb
      rcases hor with rfl | ⟨_, h2⟩
      · exact h1
      · exact hM.shut _ h1 j h2
    refine midD_go H hM ho hun hds fun vs' a' w' hM' => ih _ vs' a' w' ?_ hM'
    have := cnt_set his hun ops.size hil
    omega
theorem midD_start {D : List (List Nat)} {L : List Nat} {Inv J : World → Prop} {F : (Nat → Value) → Nat → World → Prop} {fx : Nat → Bool} {a0 : Act} {w : World} (hI : Inv w) (hJ : J w) : MidD ops D L Inv J F fx a0 (fun _ => undef) (Array.replicate ops.size false) a0 w :=
  ⟨by simp, rfl, rfl, fun _ _ => rfl, fun i _ h => by rcases Nat.lt_or_ge i ops.size with h' | h' <;> simp [h'] at h, fun i h => by rcases Nat.lt_or_ge i ops.size with h' | h' <;> simp [h'] at h, hI, fun _ => hJ, fun i h => by rcases Nat.lt_or_ge i ops.size with h' | h' <;> simp [h'] at h⟩
/-- A region that draws its order. -/
theorem anyD_region {id : Nat} {a0 : Act} {w0 : World} {D : List (List Nat)} {L : List Nat} {Inv J : World → Prop} {F : (Nat → Value) → Nat → World → Prop} {fx : Nat → Bool} {dsts : List (Option Tmp)} (hm : P.follows .mixedOrders = true) (hI : Inv w0.drew) (hJ : J w0.drew)
    (H : AllD P ops Q D L Inv J F fx a0 dsts) : (Code.region id ops true).wp P Q a0 w0 :=
  wp_region_any hm (anyD_go H ops.size _ (fun _ => undef) a0 w0.drew (by rw [cnt_all _ _ (Nat.le_refl _)]; exact Nat.le_refl _) (midD_start hI hJ))
/-- A region in the text's order. -/
theorem seqD_go {D : List (List Nat)} {L : List Nat} {Inv J : World → Prop} {F : (Nat → Value) → Nat → World → Prop} {fx : Nat → Bool} {a0 : Act} {dsts : List (Option Tmp)} (H : AllD P ops Q D L Inv J F fx a0 dsts) :
    ∀ (m k : Nat) (l : Array Bool) (vs : Nat → Value) (a : Act) (w : World), k + m = ops.size → (∀ j, l.getD j false = true ↔ j < k) → MidD ops D L Inv J F fx a0 vs l a w → wpOps P ops Q (List.range' k m) a w := by
  intro m
  induction m with
  | zero =>
    intro k l vs a w hkm hl hM
    have hfull : ∀ i, i < ops.size → l.getD i false = true := fun i hi => (hl i).2 (by omega)
    show Q .normal a w
    rw [midD_end H.chk hM hfull]
    exact H.last vs w hM.inv (fun i hi hu => hM.facts i (hfull i hi) (fun hiL k hkL hkl => by
      rcases useB_spec (useE_spec hu).1 hiL k hkL with h | ⟨_, h⟩
      · exact h
      · have := getD_false_lt hkl
        rw [hM.size] at this
        omega) ((useE_spec hu).2.elim (fun h => .inr (.inl h)) fun h => h.elim (fun h => .inr (.inr fun q hq hql => by
          have hqs := getD_false_lt hql
          rw [hM.size] at hqs
          rcases earlyB_spec h q hq with h2 | h2
          · omega
          · have := (H.chk.dep q _ hqs h2).1
            omega)) .inl))
  | succ m ih =>
    intro k l vs a w hkm hl hM
    rw [List.range'_succ, wpOps_cons]
    have hk : k < ops.size := by omega
    refine midD_go H hM (Array.getElem?_eq_getElem hk) (fun h => by have := (hl k).1 h; omega) (fun j hj => (hl j).2 (H.chk.dep k j hk hj).1) fun vs' a' w' hM' => ih (k + 1) _ vs' a' w' (by omega) (fun j => ?_) hM'
    by_cases hjk : j = k
    · subst hjk
      rw [getD_set_self (by rw [hM.size]; exact hk)]
      exact ⟨fun _ => by omega, fun _ => rfl⟩
    · rw [getD_set_ne false (Ne.symm hjk), hl j]
      omega
theorem seqD_region {id : Nat} {a0 : Act} {w0 : World} {D : List (List Nat)} {L : List Nat} {Inv J : World → Prop} {F : (Nat → Value) → Nat → World → Prop} {fx : Nat → Bool} {dsts : List (Option Tmp)} (hI : Inv w0) (hJ : J w0)
    (H : AllD P ops Q D L Inv J F fx a0 dsts) : (Code.region id ops false).wp P Q a0 w0 :=
  wp_region (by rw [List.range_eq_range']; exact seqD_go H ops.size 0 _ (fun _ => undef) a0 w0 (by omega) (fun j => by rcases Nat.lt_or_ge j ops.size with h' | h' <;> simp [h']) (midD_start hI hJ))
/-- A region that draws its order: the obligations by hand, facts may look at what came up before. -/
theorem drawsD_ {id : Nat} {a0 : Act} {w0 : World} {D : List (List Nat)} {L : List Nat} {dsts : List (Option Tmp)} (I J : World → Prop) (F : (Nat → Value) → Nat → World → Prop) (fx : Nat → Bool) (hm : P.follows .mixedOrders = true) (hr : RegOk ops D L dsts) (hroom : roomB dsts a0.tmps.size = true)
    (hJ : ∀ w w', J w → Below w.heap.size w w' → J w') (h0 : I w0.drew) (hJ0 : J w0.drew)
    (cong : ∀ i vs vs' w, vs i = vs' i → (∀ j ∈ D.getD i [], vs j = vs' j) → F vs i w → F vs' i w)
    (stay : ∀ vs i w w', F vs i w → Below w.heap.size w w' → F vs i w')
    (fix : ∀ vs i w w', i ∉ L → fx i = true → F vs i w → F vs i w')
    (step : ∀ i o, ops[i]? = some o → ∀ (vs : Nat → Value) (w : World), I w → (i ∈ L → (∀ k ∈ L, i ≤ k) → J w) → (earlyB D L i = true → J w) → (∀ j ∈ (D.getD i []).filter (fun j => useE D L (fx j) j i), F vs j w) → Ob P (dsts.take i) o vs a0 w (fun v w' => I w' ∧ (i ∉ L → Below w.heap.size w w') ∧ F (upd vs i v) i w'))
    (last : ∀ (vs : Nat → Value) (w : World), I w → (∀ i, i < ops.size → useE D L (fx i) i ops.size = true → F vs i w) → Q .normal (putL dsts 0 vs a0) w) : (Code.region id ops true).wp P Q a0 w0 := by
  have hC := chk_of hr.chk
  refine anyD_region (D := D) (L := L) (Inv := I) (J := J) (F := F) (fx := fx) (dsts := dsts) hm h0 hJ0 ⟨hC, hr.dst, fun j t hj => ?_, fun i o g want hi hg => ?_, hr.chain, cong, stay, fix, hJ, step, fun vs w hI hF => ?_⟩
  · have hm : some t ∈ dsts := by
      rw [← hr.dst]
      unfold dstOf at hj
      cases ho : ops[j]? with
      | none => rw [ho] at hj; cases hj
      | some o =>
        rw [ho] at hj
        exact List.mem_map.2 ⟨o, by simpa using Array.mem_of_getElem? ho, hj⟩
    exact roomB_spec dsts _ hroom t hm
  · have h := hr.grd
    simp only [guardsB, List.all_eq_true, List.mem_range] at h
    have h2 := h i (Array.getElem?_eq_some_iff.1 hi).1
    rw [hi] at h2
    simp only [hg, Bool.and_eq_true, List.contains_iff_mem] at h2
    exact h2
  · rw [putN_putL vs a0 dsts hr.dst _ (Nat.le_refl _), List.take_of_length_le (by rw [← hr.dst]; simp)]
    exact last vs w hI hF
end
end Go.Proofs.Ytnkeijdpjcclcaa.Kit
