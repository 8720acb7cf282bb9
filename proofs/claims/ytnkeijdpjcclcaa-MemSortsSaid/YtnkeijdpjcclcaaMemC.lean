/- slices.Delete of one element, at ints. -/
import Derived.Test.YtnkeijdpjcclcaaMemB
namespace Go.Proofs.Ytnkeijdpjcclcaa.Mem
set_option linter.unusedVariables false
set_option linter.unusedSimpArgs false
open Go.Proofs.Ytnkeijdpjcclcaa.Kit Go.RowKit Go.Proofs.YtnkeijdpjcclcaaW.PrintWords Go.Proofs.YtnkeijdpjcclcaaW.PrintLast Go.Proofs.YtnkeijdpjcclcaaW.PrintMore
theorem lay_del {V : Type} (cur A D Z : List V) (a d z : Nat) (hA : A.length = a) (hD : D.length = d) (hZ : Z.length = z) (ht : cur.take a = A) (hL : a + d + z ≤ cur.length) (C1 C2 : List V) (h1 : C1 = cur.take a ++ D ++ cur.drop (a + D.length)) (h2 : C2 = C1.take (a + d) ++ Z ++ C1.drop (a + d + Z.length)) :
    (∃ R, C2 = A ++ D ++ R) ∧ C1.length = cur.length ∧ C2.length = cur.length := by
  have e1 : C1.length = cur.length := by
    rw [h1]
    simp only [List.length_append, List.length_take, List.length_drop]
    omega
  have e2 : C1.take (a + d) = A ++ D := by
    rw [h1, ht, show a + d = (A ++ D).length by simp [hA, hD], List.take_left]
  refine ⟨⟨Z ++ C1.drop (a + d + Z.length), by rw [h2, e2]; simp only [List.append_assoc]⟩, e1, ?_⟩
  rw [h2]
  simp only [List.length_append, List.length_take, List.length_drop]
  omega
theorem run_slice_op3 {P : Program} {o : Oper} {l : List (Nat × Value)} {t : TypeId} {x a b c : Operand} {v u : Value} {w : World} (ho : o.op = .slice t x (some a) (some b) (some c)) (hx : lk l x = v) (hrun : (Instr.sliceAt t v (some (lk l a)) (some (lk l b)) (some (lk l c))).run P w = .ok u w) : (execOp (lk l) o).run P w = .ok (.value u) w := by
  unfold execOp
  simp [ho, hx, hrun]
theorem cut_three {P : Program} {t e : TypeId} {k : Nat} (T : StTy P t e k) (A : Option Addr) (n c lo hi mx : Nat) (h1 : lo ≤ hi) (h2 : hi ≤ mx) (h3 : mx ≤ c) (j1 j2 j3 : Int) (e1 : j1 = (lo : Int)) (e2 : j2 = (hi : Int)) (e3 : j3 = (mx : Int)) :
    ∃ A' : Option Addr, ∀ W : World, (Instr.sliceAt t (.slice A n c) (some (.int .i64 j1)) (some (.int .i64 j2)) (some (.int .i64 j3))).run P W = .ok (.slice A' (hi - lo) (mx - lo)) W := by
  refine ⟨if mx = lo then A else A.map (·.add (lo * k)), fun W => ?_⟩
  rw [e1, e2, e3, run_sliceAt_slice W t _ _ _ _ (sty_und T), run_slice_lhm W t A n c (sty_und T) .i64 .i64 .i64 lo hi mx (by omega) (by omega) (by omega) (by omega), st_sizeOf T]
  simp [sliced, Result.andThen]
theorem zI : (Builtin.zeroCells (Value.int .i64 0).cells 1).toList = [.int .i64 0] := by kernel_rfl
theorem reg_57_1 : RegOk (opsOf Try.f57 1) [[], [], [], [], [3], [0, 1, 2, 3, 4]] [] [some 8, some 9, some 10, some 11, some 12, some 13] := regOk (by kernel_rfl)
theorem reg_57_5 : RegOk (opsOf Try.f57 5) [[], [], [0, 1], [], [], [3, 4], [0, 1, 2, 3, 4, 5], [0, 1, 2, 3, 4, 5, 6]] [6, 7] [some 20, some 21, some 22, some 23, some 24, some 25, some 26, some 0] := regOk (by kernel_rfl)
theorem reg_57_6 : RegOk (opsOf Try.f57 6) [[], [], [1], [], [0, 1, 2, 3], [0, 1, 2, 3, 4]] [5] [some 27, some 28, some 29, some 30, some 31, none] := regOk (by kernel_rfl)
set_option maxRecDepth 20000 in
set_option maxHeartbeats 3200000 in
theorem delI_any (v : Value) (xs : List Int) (i : Nat) (w : World) {B : Nat} (ho : OwnK encI kI 3 w B v xs) (hi : i < xs.length) (hB : B ≤ w.heap.size) (hx : xs.length ≤ 1000000) :
    Calls Try.prog 57 #[v, .int .i64 (i : Nat), .int .i64 ((i + 1 : Nat) : Int)] w fun e w' => ∃ v1, e = .returned v1 ∧ OwnK encI kI 3 w' B v1 (xs.take i ++ xs.drop (i + 1)) ∧ Fr w w' v v1 := by
  obtain ⟨g, cap, cur, rfl, hBg, hg, hnc, hcm, hcl, hct⟩ := own_block ho (by omega)
  have hA : ((xs.take i).flatMap encI).length = i * kI := by rw [flat_length encI_len, List.length_take, Nat.min_eq_left (by omega)]
  have hD : ((xs.drop (i + 1)).flatMap encI).length = (xs.length - (i + 1)) * kI := by rw [flat_length encI_len, List.length_drop]
  have hA2 : ((xs.take (i + 1)).flatMap encI).length = (i + 1) * kI := by rw [flat_length encI_len, List.length_take, Nat.min_eq_left (by omega)]
  have had : i * kI + (xs.length - (i + 1)) * kI = (xs.length - 1) * kI := by rw [← Nat.add_mul]; congr 1; omega
  have had2 : (i + 1) * kI + (xs.length - (i + 1)) * kI = xs.length * kI := by rw [← Nat.add_mul]; congr 1; omega
  have hc : cur.take ((i + 1) * kI + (xs.length - (i + 1)) * kI) = (xs.take (i + 1)).flatMap encI ++ (xs.drop (i + 1)).flatMap encI := by rw [had2, hct, ← List.flatMap_append, List.take_append_drop]
  have hta : cur.take (i * kI) = (xs.take i).flatMap encI := by
    have h := congrArg (List.take (i * kI)) hct
    rw [List.take_take, Nat.min_eq_left (Nat.mul_le_mul_right _ (by omega))] at h
    rw [h]
    conv => lhs; rw [← List.take_append_drop i xs, List.flatMap_append]
    rw [← hA, List.take_left]
  have hone : ∀ u ∈ (xs.drop (i + 1)).flatMap encI, u.oneCell' = true := fun u hu => by
    obtain ⟨y, _, hy⟩ := List.mem_flatMap.1 hu
    exact encI_one y u hy
  have hL : i * kI + (xs.length - (i + 1)) * kI + kI ≤ cur.length := by
    rw [had, hcl, ← Nat.succ_mul]
    exact Nat.mul_le_mul_right _ (by omega)
  have hfin : (xs.take i ++ xs.drop (i + 1)).flatMap encI = (xs.take i).flatMap encI ++ (xs.drop (i + 1)).flatMap encI := by rw [List.flatMap_append]
  have hfl : (xs.take i ++ xs.drop (i + 1)).length = xs.length - 1 := by simp only [List.length_append, List.length_take, List.length_drop]; omega
  have hD0 : cap = i + 1 → (xs.drop (i + 1)).flatMap encI = [] := fun h => by
    rw [List.drop_eq_nil_of_le (by omega)]
    rfl
  have tne : ((i : Int) == ((i + 1 : Nat) : Int)) = false := by simp only [beq_eq_false_iff_ne, ne_eq]; omega
  have HA := Lib.hid hA
  have HA2 := Lib.hid hA2
  have HD := Lib.hid hD
  have HD0 := Lib.hid hD0
  have HC := Lib.hid hc
  have HTA := Lib.hid hta
  have HONE := Lib.hid hone
  have HFIN := Lib.hid hfin
  have HFL := Lib.hid hfl
  have HG := Lib.hid hg
  have HCL := Lib.hid hcl
  have HAD := Lib.hid had
  have HLL := Lib.hid hL
  clear hA hD hA2 hc hta hone hfin hfl hg hcl had had2 hct ho hL hD0
  generalize hys : xs.take i ++ xs.drop (i + 1) = ys at HFIN HFL ⊢
  clear hys
  generalize (xs.take i).flatMap encI = A at HA HTA HFIN
  generalize (xs.take (i + 1)).flatMap encI = A2 at HA2 HC
  generalize (xs.drop (i + 1)).flatMap encI = D at HD HC HFIN HONE HD0
  generalize xs.length = n at *
  obtain ⟨A', hcut⟩ := cut_three stI (some ⟨g, 0, none⟩) n cap i (i + 1) n (by omega) (by omega) hnc (i : Int) ((i + 1 : Nat) : Int) (n : Int) rfl rfl rfl
  have HCUT1 := Lib.hid hcut
  have HCUT2 := Lib.hid (cut_hi stI (some ⟨g, 0, none⟩) n cap i (by omega) .i64 (i : Int) rfl)
  have hcut3 := cut_lo' stI g n cap (i + 1) (by omega) hnc .i64 ((i + 1 : Nat) : Int) rfl
  obtain ⟨o5, ho5⟩ : ∃ o5, o5 = (if cap = i + 1 then 0 else (i + 1) * kI) := ⟨_, rfl⟩
  rw [← ho5] at hcut3
  have HCUT3 := Lib.hid hcut3
  have HO5 := Lib.hid ho5
  clear hcut3 ho5
  have HCUT4 := Lib.hid (cut_both stI g (n - 1) cap (n - 1) n (by omega) hnc (by omega) .i64 .i64 ((n - 1 : Nat) : Int) (n : Int) rfl rfl)
  obtain ⟨C1, hC1⟩ : ∃ C1, C1 = cur.take (i * kI) ++ D ++ cur.drop (i * kI + D.length) := ⟨_, rfl⟩
  obtain ⟨C2, hC2⟩ : ∃ C2, C2 = C1.take (i * kI + (n - (i + 1)) * kI) ++ [.int .i64 0] ++ C1.drop (i * kI + (n - (i + 1)) * kI + [Value.int .i64 0].length) := ⟨_, rfl⟩
  have HLAY := Lib.hid (lay_del cur A D [.int .i64 0] (i * kI) ((n - (i + 1)) * kI) kI HA.out HD.out rfl HTA.out HLL.out C1 C2 hC1 hC2)
  have HC1 := Lib.hid hC1
  have HC2 := Lib.hid hC2
  clear hC1 hC2 hcut
  go_enter Try.func57, Try.ntmps57
  go_upto_region 1 with fail
  refine plain_ (fun wq => Below w.heap.size w wq) (fun _ => True) reg_57_1 rfl inv0 (fun _ _ _ _ => trivial) (Below.refl _ _) trivial ?_
  refine w_move (.inl rfl) (fun vs w hK => ⟨wants_none rfl, rho_out rfl rfl⟩) ?_
  refine w_move (.inl rfl) (fun vs w hK => ⟨wants_none rfl, rho_out rfl rfl⟩) ?_
  refine w_move (.inl rfl) (fun vs w hK => ⟨wants_none rfl, rho_out rfl rfl⟩) ?_
  refine w_move (.inl rfl) (fun vs w hK => ⟨wants_none rfl, rho_out rfl rfl⟩) ?_
  refine w_val [(11, _)] (_) (fun vs w hK => ⟨wants_none rfl, rho_in rfl (fv (hK 3 (memE rfl))), trivial⟩) rfl (fun wq hI => by exact run_len_sl rfl Try.underlying34 rfl rfl) ?_
  refine w_val [(8, _), (9, _), (10, _), (12, _)] (_) (fun vs w hK => ⟨wants_none rfl, rho_in rfl (fv (hK 0 (memE rfl))), rho_in rfl (fv (hK 1 (memE rfl))), rho_in rfl (fv (hK 2 (memE rfl))), rho_in rfl (fv (hK 4 (memE rfl))), trivial⟩) rfl (fun wq hI => by exact run_slice_op3 rfl rfl (HCUT1.out wq)) ?_
  refine w_end rfl rfl rfl (fun vs wq hI hF => ?_)
  simp only [List.reverse_cons, List.reverse_nil, List.nil_append, List.cons_append, finL_val, finL_of, finL_any, finL_app, finL_new, finL_gr, finL_row, finL_box, finL_nil, Act.put, List.setIfInBounds_toArray, List.set_cons_zero, List.set_cons_succ, Nat.reduceAdd]
  have HW1 := Lib.hid hI
  have HG1 := Lib.hid (box_stays HG.out hI)
  clear hI hF HCUT1 HG
  obtain ⟨w1, rfl⟩ : ∃ w1 : World, w1 = wq := ⟨_, rfl⟩
  go_upto_region 5 with fail
  refine draws_ (fun W => w.grownBy W (some g)) (fun W => W.heap[g]? = some (.cells cur.toArray 3 (0, 0))) (by kernel_rfl) reg_57_5 rfl (fun _ _ h k => grown_then h k) (fun _ _ h k => box_stays h k) (grown_below (below_drew HW1.out)) HG1.out ?_
  refine w_move (.inl rfl) (fun vs w hK => ⟨wants_none rfl, rho_out rfl rfl⟩) ?_
  refine w_move (.inl rfl) (fun vs w hK => ⟨wants_none rfl, rho_out rfl rfl⟩) ?_
  refine w_val [(20, _), (21, _)] (_) (fun vs w hK => ⟨wants_none rfl, rho_in rfl (fv (hK 0 (memE rfl))), rho_in rfl (fv (hK 1 (memE rfl))), trivial⟩) rfl (fun wq hI => by exact run_slice_op rfl rfl (HCUT2.out wq)) ?_
  refine w_move (.inl rfl) (fun vs w hK => ⟨wants_none rfl, rho_out rfl rfl⟩) ?_
  refine w_move (.inl rfl) (fun vs w hK => ⟨wants_none rfl, rho_out rfl rfl⟩) ?_
  refine w_val [(23, _), (24, _)] (_) (fun vs w hK => ⟨wants_none rfl, rho_in rfl (fv (hK 3 (memE rfl))), rho_in rfl (fv (hK 4 (memE rfl))), trivial⟩) rfl (fun wq hI => by exact run_slice_op rfl rfl (HCUT3.out wq)) ?_
  refine w_lin (FW.of (fun v W => v = .slice (some ⟨g, 0, none⟩) (n - 1) cap ∧ W.heap[g]? = some (.cells C1.toArray 3 (0, 0))) (fun _ _ _ h hb => ⟨h.1, box_stays h.2 hb⟩)) (by decide) (fun vs wq hI hJ hK => ?_) ?_
  · have hA := hJ (by decide) (by decide)
    have hll := HLL.out
    have hsrc : ∀ (j : Nat) (v : Value), D[j]? = some v → wq.cell? ((⟨g, o5, none⟩ : Addr).add j) = some v := by
      by_cases hcap : cap = i + 1
      · intro j v hj
        rw [HD0.out hcap] at hj
        simp at hj
      · rw [HO5.out, if_neg hcap]
        exact src_cell hA HA2.out HC.out
    obtain ⟨w5, hrun, hs5⟩ := append_in (c' := cap - (i + 1)) (cs := D) stI hA hsrc HD.out (show i + (n - (i + 1)) ≤ cap by omega) (by rw [HD.out]; omega) HONE.out 34
    rw [← HC1.out] at hs5
    rw [show i + (n - (i + 1)) = n - 1 by omega] at hrun
    exact ob_run [(22, _), (25, _)] (wants_none rfl) ⟨rho_in rfl (fv (hK 2 (memE rfl))), rho_in rfl (fv (hK 5 (memE rfl))), trivial⟩ rfl (run_append_op rfl rfl rfl hrun) ⟨grown_set hI hs5, rfl, hs5.at_⟩
  refine w_lin (FW.of (fun v W => v = .slice (some ⟨g, 0, none⟩) (n - 1) cap ∧ W.heap[g]? = some (.cells C1.toArray 3 (0, 0))) (fun _ _ _ h hb => ⟨h.1, box_stays h.2 hb⟩)) (by decide) (fun vs wq hI hJ hK => ?_) ?_
  · exact ob_copy (.inr rfl) (wants_none rfl) (rho_in rfl rfl) ⟨hI, hK 6 (memE rfl)⟩
  refine w_end rfl rfl rfl (fun vs wq hI hF => ?_)
  simp only [List.reverse_cons, List.reverse_nil, List.nil_append, List.cons_append, finL_val, finL_of, finL_any, finL_app, finL_new, finL_gr, finL_row, finL_box, finL_nil, Act.put, List.setIfInBounds_toArray, List.set_cons_zero, List.set_cons_succ, Nat.reduceAdd]
  obtain ⟨e7, h7⟩ : vs 7 = .slice (some ⟨g, 0, none⟩) (n - 1) cap ∧ wq.heap[g]? = some (.cells C1.toArray 3 (0, 0)) := hF 7 (by decide) rfl
  rw [e7]
  have HR := Lib.hid hI
  have HG2 := Lib.hid h7
  clear hI hF e7 h7 HW1 HG1 HCUT2 HCUT3
  obtain ⟨w2, rfl⟩ : ∃ w2 : World, w2 = wq := ⟨_, rfl⟩
  go_upto_region 6 with fail
  refine plain_ (fun W => w.grownBy W (some g)) (fun W => W.heap[g]? = some (.cells C1.toArray 3 (0, 0))) reg_57_6 rfl (fun _ _ h k => grown_then h k) (fun _ _ h k => box_stays h k) HR.out HG2.out ?_
  refine w_move (.inl rfl) (fun vs w hK => ⟨wants_none rfl, rho_out rfl rfl⟩) ?_
  refine w_move (.inl rfl) (fun vs w hK => ⟨wants_none rfl, rho_out rfl rfl⟩) ?_
  refine w_val [(28, _)] (_) (fun vs w hK => ⟨wants_none rfl, rho_in rfl (fv (hK 1 (memE rfl))), trivial⟩) rfl (fun wq hI => by exact run_len_sl rfl Try.underlying34 rfl rfl) ?_
  refine w_move (.inl rfl) (fun vs w hK => ⟨wants_none rfl, rho_out rfl rfl⟩) ?_
  refine w_val [(27, _), (29, _), (30, _)] (_) (fun vs w hK => ⟨wants_none rfl, rho_in rfl (fv (hK 0 (memE rfl))), rho_in rfl (fv (hK 2 (memE rfl))), rho_in rfl (fv (hK 3 (memE rfl))), trivial⟩) rfl (fun wq hI => by exact run_slice_op rfl rfl (HCUT4.out wq)) ?_
  refine w_lin (FW.of (fun _ W => W.heap[g]? = some (.cells C2.toArray 3 (0, 0))) (fun _ _ _ h hb => box_stays h hb)) (by decide) (fun vs wq hI hJ hK => ?_) ?_
  · have hA := hJ (by decide) (by decide)
    have hll := HLL.out
    have had := HAD.out
    obtain ⟨w6, hrun, hs6⟩ := clear_run (m := 1) (c := cap - (n - 1)) (o := (n - 1) * kI) etI (by decide) hA (by rw [zI, HLAY.out.2.1]; show (n - 1) * kI + 1 ≤ cur.length; have : kI = 1 := rfl; omega) (by rw [zI]; intro u hu; rw [List.mem_singleton.1 hu]; rfl) 0
    rw [zI, ← HAD.out, ← HC2.out] at hs6
    exact ob_run [(31, _)] (wants_none rfl) ⟨rho_in rfl (fv (hK 4 (memE rfl))), trivial⟩ rfl (run_clear_op rfl rfl (by rw [show n - (n - 1) = 1 by omega]; exact hrun)) ⟨grown_set hI hs6, hs6.at_⟩
  refine w_end rfl rfl rfl (fun vs wq hI hF => ?_)
  simp only [List.reverse_cons, List.reverse_nil, List.nil_append, List.cons_append, finL_val, finL_of, finL_any, finL_app, finL_new, finL_gr, finL_row, finL_box, finL_nil, Act.put, List.setIfInBounds_toArray, List.set_cons_zero, List.set_cons_succ, Nat.reduceAdd]
  have HR2 := Lib.hid hI
  have HG3 : Hid (wq.heap[g]? = some (.cells C2.toArray 3 (0, 0))) := Lib.hid (hF 5 (by decide) rfl)
  clear hI hF HR HG2 HCUT4
  go_wp2_with fail
  go_ret
  refine ⟨_, rfl, ?_, HR2.out, .inl rfl⟩
  obtain ⟨⟨R, hR⟩, _, hl2⟩ := HLAY.out
  have h := own_cells (enc := encI) (k := kI) (e := 3) (cap := cap) (B := B) (ys := ys) (R := R) encI_len (by rw [HFIN.out, ← hR]; exact HG3.out) (by rw [HFIN.out, ← hR, hl2, HCL.out]) (by rw [HFL.out]; omega) hcm hBg
  rw [HFL.out] at h
  exact h
end Go.Proofs.Ytnkeijdpjcclcaa.Mem

