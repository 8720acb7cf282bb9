/- Contracts of package rows: an output, as it is laid. -/
import Derived.Test.YtglkagicmolbeaaRowsA
namespace Go.Proofs.Ytglkagicmolbeaa.Rw
set_option linter.unusedVariables false
set_option linter.unusedSimpArgs false
open Go.Proofs.Ytglkagicmolbeaa.Kit Go.Proofs.Ytglkagicmolbeaa.Num Go.RowKit Go.Proofs.YtglkagicmolbeaaW.PrintWords Go.Proofs.YtglkagicmolbeaaW.PrintLast Go.Proofs.YtglkagicmolbeaaW.PrintMore NumPure
def pt (id : List Int) (out : Int) : List Value := nums .u8 id ++ [.int .u32 out]
theorem i64_u32 {out : Int} (h : 0 ≤ out ∧ out < 4294967296) : IntKind.i64.wrap out = out := by rw [IntKind.wrap_i64]; omega
theorem pt_at {id : List Int} {out : Int} (h : id.length = 32) : (pt id out).toArray[32]? = some (.int .u32 out) := by simp [pt, nums, ← h]
theorem reg_57_1 : RegOk (opsOf Try.f57 1) [[], [], [1], [0, 1, 2], [], [4], [4, 5], [0, 1, 2, 3, 4, 5, 6], [0, 1, 2, 3, 4, 5, 6, 7]] [3, 7, 8] [some 5, some 6, some 7, some 8, some 9, some 10, some 11, some 12, some 4] := regOk (by kernel_rfl)
set_option maxRecDepth 20000 in
set_option maxHeartbeats 1600000 in
theorem point_any (id : List Int) (hid : id.length = 32) (out : Int) (ho : 0 ≤ out ∧ out < 4294967296) (v : Value) (xs : List Int) (w0 w : World) (HO : GrB w w0.heap.size v xs) (HB : Below w0.heap.size w0 w) (hl : xs.length + 40 ≤ 140737488355328) :
    Calls Try.prog 57 #[v, .agg (pt id out).toArray] w fun e w' => ∃ v', e = .returned v' ∧ AppB w0 w w' v v' (xs ++ id ++ be (U out) 4) := by
  have HO' := Lib.hid HO
  have HB' := Lib.hid HB
  have HID := Lib.hid hid
  clear HO HB hid
  go_enter Try.func57, Try.ntmps57
  go_wp2_with fail
  have hg : (w.alloc (.cells (pt id out).toArray 39)).heap[w.heap.size]? = some (.cells (pt id out).toArray 39) := heap_alloc_new w _
  have hb1 : Below w.heap.size w (w.alloc (.cells (pt id out).toArray 39)) := below_alloc (Below.refl _ _) _
  have hne : v.ownBlock ≠ some w.heap.size := gr_ne HO'.out (Nat.le_refl _)
  have hO1 := gr_below HO'.out hb1
  have hB1 := below_then HB'.out HB'.out.size hb1
  generalize w.alloc (.cells (pt id out).toArray 39) = W at hg hb1 hO1 hB1 ⊢
  have HJ0 := Lib.hid (app_start hO1 hB1 (below_drew (Below.refl _ _)))
  have HI0 := Lib.hid (Keeps.mk (w := W.drew) (below_drew hB1) hg)
  have HNE := Lib.hid hne
  have HB1 := Lib.hid hb1
  have HG := Lib.hid (mk_lt hg)
  clear hne hO1 hB1 hb1 hg
  refine draws_ (Keeps w0 w.heap.size (.cells (pt id out).toArray 39)) (fun w' => AppB w0 W w' v v xs) (by kernel_rfl) reg_57_1 rfl keeps_below app_st HI0.out HJ0.out ?_
  refine w_move (.inl rfl) (fun vs w hK => ⟨wants_none rfl, rho_out rfl rfl⟩) ?_
  refine w_val [(3, _)] _ (fun vs w hK => ⟨wants_none rfl, rho_out rfl rfl, trivial⟩) rfl (fun wq hI => by simp only [execOp, Option.map_some, Option.map_none, lk_tmp, lk_const, lkT_cons, ↓reduceIte, Nat.reduceEqDiff]; go_simp; (first | done | rfl)) ?_
  refine w_val [(6, _)] _ (fun vs w hK => ⟨wants_none rfl, rho_in rfl (fv (hK 1 (memE rfl))), trivial⟩) rfl (fun wq hI => by simp only [execOp, Option.map_some, Option.map_none, lk_tmp, lk_const, lkT_cons, ↓reduceIte, Nat.reduceEqDiff]; go_simp; (first | done | rfl)) ?_
  refine w_lin (FW.app .u8 5 w0 W v (xs ++ id)) (by decide) (fun vs wq hI hJ hK => ?_) ?_
  · have hA := hJ (by decide) (by decide)
    have hR : Rds .u8 wq (some ⟨w.heap.size, 0, none⟩) 32 id := rds_block (o := 0) hI.at_ (by simp [pt, nums, ← HID.out]) HID.out (by omega)
    obtain ⟨v1, w1, hrun, hA1⟩ := gr_run (c := 32) tb 22 hA.own hR hA.bel.size (by omega)
    have hA2 := app_of_run hA hA1
    exact ob_run [(5, _), (7, _)] (wants_none rfl) ⟨rho_in rfl (fv (hK 0 (memE rfl))), rho_in rfl (fv (hK 2 (memE rfl))), trivial⟩ rfl (run_append_op rfl rfl rfl hrun) ⟨keeps_fr hI hA2.bel hA1.fr HNE.out, hA2⟩
  refine w_val [(3, _)] _ (fun vs w hK => ⟨wants_none rfl, rho_out rfl rfl, trivial⟩) rfl (fun wq hI => by simp only [execOp, Option.map_some, Option.map_none, lk_tmp, lk_const, lkT_cons, ↓reduceIte, Nat.reduceEqDiff]; go_simp; (first | done | rfl)) ?_
  refine w_val [(9, _)] (_) (fun vs w hK => ⟨wants_none rfl, rho_in rfl (fv (hK 4 (memE rfl))), trivial⟩) rfl (fun wq hI => by have hc : wq.cell? ⟨w.heap.size, 32, none⟩ = some (.int .u32 out) := cell_of_row _ _ 32 _ _ _ hI.at_ |>.trans (pt_at HID.out); simp only [execOp, lk_tmp, lk_const, lkT_cons, ↓reduceIte, Nat.reduceEqDiff]; go_simp; rfl) ?_
  refine w_val [(10, _)] (_) (fun vs w hK => ⟨wants_none rfl, rho_in rfl (fv (hK 5 (memE rfl))), trivial⟩) rfl (fun wq hI => by simp only [execOp, lk_tmp, lk_const, lkT_cons, ↓reduceIte, Nat.reduceEqDiff]; go_simp; rw [i64_u32 ho]) ?_
  refine w_lin (FW.app .u8 5 w0 W v (xs ++ id ++ be (U out) 4)) (by decide) (fun vs wq hI hJ hK => ?_) ?_
  · have hA : AppB w0 W wq v (vs 3) (xs ++ id) := hK 3 (memE rfl)
    refine ob_call [(8, _), (11, _)] _ (wants_none rfl) ⟨rho_in rfl rfl, rho_in rfl (fv (hK 6 (memE rfl))), trivial⟩ rfl rfl Try.func56 (by kernel_rfl) rfl (by simp only [List.map_toArray, List.map_cons, List.map_nil]; rfl) ((four_any out (vs 3) (xs ++ id) w0 wq hA.own hA.bel (by rw [List.length_append, HID.out]; omega)).mono ?_)
    rintro e w2 ⟨v2, rfl, hA2⟩
    exact ⟨v2, rfl, keeps_fr hI hA2.bel hA2.fr (app_ne hA HG.out HNE.out), app_next hA hA2⟩
  refine w_lin (FW.app .u8 5 w0 W v (xs ++ id ++ be (U out) 4)) (by decide) (fun vs wq hI hJ hK => ?_) ?_
  · exact ob_copy (.inr rfl) (wants_none rfl) (rho_in rfl rfl) ⟨hI, hK 7 (memE rfl)⟩
  refine w_end rfl rfl rfl (fun vs wq hI hF => ?_)
  simp only [List.reverse_cons, List.reverse_nil, List.nil_append, List.cons_append, finL_val, finL_of, finL_any, finL_app, finL_new, finL_gr, finL_row, finL_box, finL_nil, Act.put, List.setIfInBounds_toArray, List.set_cons_zero, List.set_cons_succ, Nat.reduceAdd]
  have hfin : AppB w0 W wq v (vs 8) (xs ++ id ++ be (U out) 4) := hF 8 (by decide) rfl
  have HF := Lib.hid hfin
  clear hfin hF hI
  go_wp2_with fail
  go_ret
  exact ⟨_, rfl, HF.out.own, HF.out.bel, Fr.from HB1.out HF.out.fr⟩
end Go.Proofs.Ytglkagicmolbeaa.Rw

